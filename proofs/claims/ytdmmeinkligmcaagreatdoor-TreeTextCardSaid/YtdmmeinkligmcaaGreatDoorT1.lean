/- The tree under construction in memory; (*builder).inner. -/
import Derived.Test.YtdmmeinkligmcaaGreatDoorScan8
import Derived.Deep.AppendLies
import Derived.BigQuiet
set_option linter.unusedVariables false
set_option maxRecDepth 100000
set_option maxHeartbeats 2000000
namespace Go.Proofs.YtdmmeinkligmcaaGreatDoor
open Go.RowKit

/-- A part (tree.part) as it lies in block blk. -/
structure Rec where
  blk : Nat
  name : Bs
  attrs : List At
  av : Value
  text : Bs
  kv : Value
  kids : List Nat
abbrev ptr (b : Nat) : Value := .pointer (some ⟨b, 0, none⟩)
def ptrs (l : List Nat) : List Value := l.map ptr
theorem ptrs_snoc (l : List Nat) (b : Nat) : ptrs (l ++ [b]) = ptrs l ++ [ptr b] := by simp [ptrs]
theorem ptrs_len (l : List Nat) : (ptrs l).length = l.length := by simp [ptrs]
def Rec.cells (r : Rec) : Array Value := #[st r.name, r.av, st r.text, .slice none 0 0, r.kv]
structure RecIn (w : World) (B : Nat) (r : Rec) : Prop where
  lo : B ≤ r.blk
  at_ : w.heap[r.blk]? = some (.cells r.cells 42 (0, 0))
  row : w.ownsRow B 39 1 r.kv r.kids.length (ptrs r.kids)
  ra : RA w B r.av r.attrs
def Apart (a b : Value) : Prop := ∀ k, a.ownBlock = some k → b.ownBlock ≠ some k
theorem Apart.symm {a b : Value} (h : Apart a b) : Apart b a := fun k hk hb => h k hb hk
structure Mem (w : World) (B : Nat) (rs : List Rec) : Prop where
  each : ∀ r, r ∈ rs → RecIn w B r
  blks : (rs.map (·.blk)).Nodup
  rows : rs.Pairwise fun a b => Apart a.kv b.kv
theorem Mem.perm {w : World} {B : Nat} {rs rs' : List Rec} (h : Mem w B rs) (hp : rs.Perm rs') : Mem w B rs' :=
  ⟨fun r hr => h.each r (hp.mem_iff.2 hr), ((hp.map _).nodup_iff).1 h.blks, (hp.pairwise_iff (fun h => Apart.symm h)).1 h.rows⟩
theorem RecIn.kept {w w' : World} {B : Nat} {r : Rec} (h : RecIn w B r) (h1 : w'.heap[r.blk]? = w.heap[r.blk]?) (h2 : ∀ k, r.kv.ownBlock = some k → w'.heap[k]? = w.heap[k]?) (h3 : ∀ k, r.av.ownBlock = some k → w'.heap[k]? = w.heap[k]?) : RecIn w' B r :=
  ⟨h.lo, h1.trans h.at_, own_kept h.row h2, own_kept h.ra h3⟩
theorem RecIn.lt {w : World} {B : Nat} {r : Rec} (h : RecIn w B r) : r.blk < w.heap.size := (Array.getElem?_eq_some_iff.1 h.at_).1
theorem RecIn.below {w w' : World} {B : Nat} {r : Rec} (h : RecIn w B r) (hb : Below w.heap.size w w') : RecIn w' B r :=
  h.kept (hb.block _ h.lt) (fun k hk => hb.block _ (own_lt h.row k hk).2) (fun k hk => hb.block _ (own_lt h.ra k hk).2)
theorem Mem.below {w w' : World} {B : Nat} {rs : List Rec} (h : Mem w B rs) (hb : Below w.heap.size w w') : Mem w' B rs := ⟨fun r hr => (h.each r hr).below hb, h.blks, h.rows⟩
/-- A builder (tree.builder) in block bb: the open parts, how many parts there are, the parts. -/
structure BAt (w : World) (B bb : Nat) (opn : List Nat) (count : Nat) (rs : List Rec) : Prop where
  mem : Mem w B rs
  gb : GB B w
  le : B ≤ w.heap.size
  bld : ∃ ov, w.heap[bb]? = some (.cells #[ov, .int .i64 count] 44 (0, 0)) ∧ w.ownsRow B 39 1 ov opn.length (ptrs opn) ∧ ∀ r, r ∈ rs → Apart ov r.kv
  lo : B ≤ bb
theorem BAt.perm {w : World} {B bb : Nat} {opn : List Nat} {count : Nat} {rs rs' : List Rec} (h : BAt w B bb opn count rs) (hp : rs.Perm rs') : BAt w B bb opn count rs' := by
  obtain ⟨ov, h1, h2, h3⟩ := h.bld
  exact ⟨h.mem.perm hp, h.gb, h.le, ⟨ov, h1, h2, fun r hr => h3 r (hp.mem_iff.2 hr)⟩, h.lo⟩
theorem BAt.below {w w' : World} {B bb : Nat} {opn : List Nat} {count : Nat} {rs : List Rec} (h : BAt w B bb opn count rs) (hb : Below w.heap.size w w') : BAt w' B bb opn count rs := by
  obtain ⟨ov, h1, h2, h3⟩ := h.bld
  exact ⟨h.mem.below hb, h.gb.next (hb.mono h.le), Nat.le_trans h.le hb.size, ⟨ov, by rw [hb.block _ (Array.getElem?_eq_some_iff.1 h1).1]; exact h1, own_below h2 hb, h3⟩, h.lo⟩
/-- The cells that an owned row of pointers shows. -/
theorem row_cell {w : World} {B : Nat} {v : Value} {l : List Nat} (h : w.ownsRow B 39 1 v l.length (ptrs l)) (hl : 0 < l.length) : ∃ g c, v = .slice (some ⟨g, 0, none⟩) l.length c ∧ l.length ≤ c ∧ c ≤ maxLen ∧ B ≤ g ∧ g < w.heap.size ∧ ∀ j b, l[j]? = some b → w.cell? ⟨g, j, none⟩ = some (ptr b) := by
  obtain ⟨A, c, hv, h1, h2, h3⟩ := own_form h
  obtain ⟨g, rfl, h4, h5, h6⟩ := h3 hl
  exact ⟨g, c, hv, h1, h2, h4, h5, fun j b hj => h6 j _ (by simp [ptrs, hj])⟩

/-- Blocks of other kinds than the builder's own are as they were. -/
def Kept (w w' : World) : Prop := ∀ (k : Nat) (cs : Array Value) (t : TypeId) (fr : Nat × Nat), w.heap[k]? = some (.cells cs t fr) → t ≠ 44 → t ≠ 42 → t ≠ 39 → w'.heap[k]? = some (.cells cs t fr)
theorem Kept.refl (w : World) : Kept w w := fun _ _ _ _ h _ _ _ => h
theorem Kept.trans {a b c : World} (h : Kept a b) (h' : Kept b c) : Kept a c := fun k cs t fr hk h1 h2 h3 => h' k cs t fr (h k cs t fr hk h1 h2 h3) h1 h2 h3
theorem Kept.below {w w' : World} (h : Below w.heap.size w w') : Kept w w' := fun k cs t fr hk _ _ _ => by
  rw [h.block k (Array.getElem?_eq_some_iff.1 hk).1]; exact hk
theorem Kept.set {w : World} {b j : Nat} {cs : Array Value} {t : TypeId} {fr : Nat × Nat} (hb : w.heap[b]? = some (.cells cs t fr)) (ht : t = 44 ∨ t = 42 ∨ t = 39) (v : Value) : Kept w (w.setCell ⟨b, j, none⟩ v) := fun k cs' t' fr' hk h1 h2 h3 => by
  have : k ≠ b := fun e => by
    subst e; rw [hb] at hk; simp at hk
    obtain ⟨_, e, _⟩ := hk
    rcases ht with ht | ht | ht <;> simp_all
  rw [Below.heap_setCell _ _ _ k this]; exact hk
theorem Kept.grow {w w' : World} {row : Option Nat} (h : w.grownBy w' row) (hr : ∀ k, row = some k → ∃ cs fr, w.heap[k]? = some (.cells cs 39 fr)) : Kept w w' := fun k cs t fr hk _ _ h3 => by
  rw [h.block k (Array.getElem?_eq_some_iff.1 hk).1 (fun e => by
    obtain ⟨cs', fr', hc⟩ := hr k e.symm
    rw [hk] at hc; simp at hc; exact h3 hc.2.1)]
  exact hk
structure Far (B : Nat) (w w' : World) : Prop where
  bel : Below B w w'
  kept : Kept w w'
theorem Far.refl (B : Nat) (w : World) : Far B w w := ⟨Below.refl B w, Kept.refl w⟩
theorem Far.trans {B : Nat} {a b c : World} (h : Far B a b) (h' : Far B b c) : Far B a c := ⟨h.bel.trans h'.bel, h.kept.trans h'.kept⟩
theorem Far.mono {B : Nat} {w w' : World} (h : Below w.heap.size w w') (hB : B ≤ w.heap.size) : Far B w w' := ⟨h.mono hB, Kept.below h⟩
theorem Far.alloc {B : Nat} {a w : World} (h : Far B a w) (hB : B ≤ w.heap.size) (o : Obj) : Far B a (w.alloc o) := h.trans (Far.mono ((Below.refl _ w).alloc (Nat.le_refl _) o) hB)
theorem Far.drewN {B : Nat} {a w : World} (h : Far B a w) (n : Nat) : Far B a (w.drewN n) := h.trans ⟨below_drewN (Below.refl B w) n, fun _ _ _ _ h _ _ _ => h⟩
theorem inner_any (B bb b0 count : Nat) (os : List Nat) (rs : List Rec) (w : World) (h : BAt w B bb (os ++ [b0]) count rs) (hlen : os.length ≤ 100000) :
    Calls Tryz.prog 47 #[.pointer (some ⟨bb, 0, none⟩)] w fun e w' => e = .returned (ptr b0) ∧ ∃ n, w' = w.drewN n := by
  obtain ⟨ov, h1, h2, -⟩ := h.bld
  obtain ⟨g, c, rfl, hn, hc, -, -, hcell⟩ := row_cell h2 (by simp)
  have c0 : w.cell? ⟨bb, 0, none⟩ = some (.slice (some ⟨g, 0, none⟩) (os.length + 1) c) := by rw [Lib.cell_of_heap h1]; simp
  have c1 := hcell os.length b0 (by simp)
  have hw64 : wrap64 (os.length : Int) = os.length := IntWalk.wrap64_in _ (by omega)
  clear hcell h1 h2 hn hc h
  generalize os.length = m at *
  go_enter Tryz.func47, Tryz.ntmps47
  go_wp2_with fail
  go_quiet (fail)
  go_wp2_with fail
  go_ret
  exact ⟨rfl, _, rfl⟩
end Go.Proofs.YtdmmeinkligmcaaGreatDoor
