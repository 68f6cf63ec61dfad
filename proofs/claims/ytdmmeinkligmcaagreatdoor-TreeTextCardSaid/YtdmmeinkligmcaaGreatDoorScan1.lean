/- The scanner in memory; (*scanner).add. -/
import Derived.Test.YtdmmeinkligmcaaGreatDoorAttrs
import Derived.Deep.RegionLaw
import Derived.Deep.AppendLies
set_option linter.unusedVariables false
set_option maxRecDepth 100000
set_option maxHeartbeats 2000000
namespace Go.Proofs.YtdmmeinkligmcaaGreatDoor
open Go.RowKit

structure Tk where
  kind : Int
  name : Bs
  attrs : List At
  text : Bs
deriving DecidableEq
/-- A token's four cells; v: its attributes' slice. -/
def tkCell (p : Tk × Value) : List Value := [.int .i64 p.1.kind, st p.1.name, p.2, st p.1.text]
def tkCells (ts : List (Tk × Value)) : List Value := ts.flatMap tkCell
/-- v is a slice of tokens that the call has made. -/
def TkRow (w : World) (B : Nat) (v : Value) (ts : List (Tk × Value)) : Prop :=
  w.ownsRow B 48 4 v ts.length (tkCells ts) ∧ ∀ p, p ∈ ts → RA w B p.2 p.1.attrs
/-- A scanner in block sb: its rest, its tokens. -/
def ScanAt (w : World) (B sb : Nat) (rest : Bs) (ts : List (Tk × Value)) : Prop :=
  B ≤ sb ∧ ∃ v, w.heap[sb]? = some (.cells #[st rest, v] 68 (0, 0)) ∧ TkRow w B v ts
theorem tkCells_snoc (ts : List (Tk × Value)) (p : Tk × Value) : tkCells (ts ++ [p]) = tkCells ts ++ tkCell p := by simp [tkCells]
theorem RA.one {w : World} {B : Nat} {v : Value} {l : List At} (h : RA w B v l) : ∃ A c, v = .slice A l.length c := by
  obtain ⟨A, c, e, _⟩ := own_form h; exact ⟨A, c, e⟩
/-- The block of an owned row is of the element's type. -/
theorem own_type {w : World} {base : Nat} {e : TypeId} {size n : Nat} {v : Value} {xs : List Value} (h : w.ownsRow base e size v n xs) (k : Nat) (hk : v.ownBlock = some k) : ∃ cells, w.heap[k]? = some (.cells cells e (0, 0)) := by
  rcases h.2 with ⟨rfl, _⟩ | ⟨g, cap, cur, rfl, hg, hh, r⟩
  · simp [Value.ownBlock] at hk
  · have : g = k := by simpa [Value.ownBlock] using hk
    subst this
    exact ⟨cur, hh⟩
theorem own_ne {w : World} {base : Nat} {e T : TypeId} {size n : Nat} {v : Value} {xs : List Value} (h : w.ownsRow base e size v n xs) {b : Nat} {cs : Array Value} {fr : Nat × Nat} (hb : w.heap[b]? = some (.cells cs T fr)) (hT : T ≠ e) : v.ownBlock ≠ some b := by
  intro hk
  obtain ⟨cells, hc⟩ := own_type h b hk
  rw [hb] at hc; simp at hc; exact hT hc.2.1
theorem RA.grown {w w' : World} {B : Nat} {v : Value} {l : List At} (h : RA w B v l) {row : Option Nat} (hg : w.grownBy w' row) (hr : ∀ k, v.ownBlock = some k → row ≠ some k) : RA w' B v l :=
  own_kept h (fun k hk => hg.block k (own_lt h k hk).2 (fun e => hr k hk e.symm))
theorem tk_info : (Tryz.prog.info? 48).map (fun i => (i.zero, i.size, i.bytes)) = some (some (.agg #[.int .i64 0, .string ⟨#[]⟩, .slice none 0 0, .string ⟨#[]⟩]), 4, 64) := by kernel_rfl

/-- The world behind an append of a token onto the scanner's row. -/
theorem add_done {B sb : Nat} {rest : Bs} {ts : List (Tk × Value)} {t : Tk} {av v : Value} {w w1 : World} {gg cap : Nat} {o1 o2 : Obj} (hBs : B ≤ sb) (hB : B ≤ w.heap.size)
    (hblk : w.heap[sb]? = some (.cells #[st rest, v] 68 (0, 0))) (hrow : w.ownsRow B 48 4 v ts.length (tkCells ts)) (hattrs : ∀ p, p ∈ ts → RA w B p.2 p.1.attrs) (ha : RA w B av t.attrs) (hne : v.ownBlock ≠ some sb)
    (hown1 : w1.ownsRow B 48 4 (.slice (some ⟨gg, 0, none⟩) (ts.length + 1) cap) (ts.length + 1) (tkCells ts ++ [.int .i64 t.kind, .string ⟨t.name.toArray⟩, av, .string ⟨t.text.toArray⟩]))
    (hgrow : ((w.alloc o1).alloc o2).drew.grownBy w1 v.ownBlock) :
    ScanAt (w1.setCell ⟨sb, 1, none⟩ (.slice (some ⟨gg, 0, none⟩) (ts.length + 1) cap)) B sb rest (ts ++ [(t, av)]) ∧ Below B w (w1.setCell ⟨sb, 1, none⟩ (.slice (some ⟨gg, 0, none⟩) (ts.length + 1) cap)) := by
  have lg : sb < w.heap.size := (Array.getElem?_eq_some_iff.1 hblk).1
  have old : ∀ k, k < w.heap.size → some k ≠ v.ownBlock → w1.heap[k]? = w.heap[k]? := fun k hk hr => by
    rw [hgrow.block k (by simp; omega) hr]
    show ((w.alloc o1).alloc o2).heap[k]? = _
    rw [heap_alloc_old _ _ (by simp; omega), heap_alloc_old _ _ hk]
  have hsb1 : w1.heap[sb]? = some (.cells #[st rest, v] 68 (0, 0)) := by rw [old sb lg (Ne.symm hne)]; exact hblk
  have hsz : w.heap.size ≤ w1.heap.size := by have := hgrow.size; simp at this; omega
  have keepA : ∀ (l : List At) (u x : Value), RA w B u l → RA (w1.setCell ⟨sb, 1, none⟩ x) B u l := fun l u x hu => by
    refine own_kept hu (fun k hk => ?_)
    obtain ⟨cs, hc⟩ := own_type hu k hk
    have kl := (Array.getElem?_eq_some_iff.1 hc).1
    have k1 : k ≠ sb := fun e => by subst e; exact own_ne hu hblk (by decide) hk
    have k2 : some k ≠ v.ownBlock := fun e => by
      obtain ⟨cs', hc'⟩ := own_type hrow k e.symm
      rw [hc] at hc'; simp at hc'
    rw [Below.heap_setCell _ _ _ k k1, old k kl k2]
  refine ⟨⟨hBs, .slice (some ⟨gg, 0, none⟩) (ts.length + 1) cap, ?_, ?_, ?_⟩, ?_⟩
  · rw [Lib.heap_setCell_same hsb1]; rfl
  · have h2 : tkCells (ts ++ [(t, av)]) = tkCells ts ++ [.int .i64 t.kind, .string ⟨t.name.toArray⟩, av, .string ⟨t.text.toArray⟩] := by rw [tkCells_snoc]; rfl
    rw [h2, List.length_append]
    refine ownsRow_setCell_other hown1 ?_ _
    exact own_ne hown1 hsb1 (by decide)
  · intro p hp
    rcases List.mem_append.1 hp with hp | hp
    · exact keepA _ _ _ (hattrs p hp)
    · rw [List.mem_singleton] at hp; subst hp; exact keepA _ _ _ ha
  · refine Below.setCell ⟨?_, ?_, ?_, hsz, fun k hk => ?_⟩ hBs _
    · rw [hgrow.os]; rfl
    · rw [hgrow.tape]; rfl
    · rw [hgrow.output]; rfl
    · refine old k (by omega) (fun e => ?_)
      have := (own_lt hrow k e.symm).1; omega

theorem add_any (B sb : Nat) (rest : Bs) (ts : List (Tk × Value)) (t : Tk) (av : Value) (w : World) (h : ScanAt w B sb rest ts) (ha : RA w B av t.attrs) (hlen : ts.length ≤ 100000) (hB : B ≤ w.heap.size) :
    Calls Tryz.prog 64 #[.pointer (some ⟨sb, 0, none⟩), .agg #[.int .i64 t.kind, st t.name, av, st t.text]] w fun e w' => e = .returned (.tuple #[]) ∧ ScanAt w' B sb rest (ts ++ [(t, av)]) ∧ Below B w w' := by
  obtain ⟨hBs, v, hblk, hrow, hattrs⟩ := h
  obtain ⟨i0, hi, hz0, hz1, hz2⟩ := info_parts tk_info
  obtain ⟨A, c, rfl⟩ := ha.one
  have lg : sb < w.heap.size := (Array.getElem?_eq_some_iff.1 hblk).1
  have hne : v.ownBlock ≠ some sb := own_ne hrow hblk (by decide)
  have c1 : w.cell? ⟨sb, 1, none⟩ = some v := by rw [Lib.cell_of_heap hblk]; rfl
  have f1 : w.frozen? ⟨sb, 1, none⟩ = false := Lib.frozen_of_heap hblk 1
  obtain ⟨A2, c2, hv2, -⟩ := own_form hrow
  have hneb : v.ownBlock ≠ some w.heap.size := fun e => by have := (own_lt hrow _ e).2; omega
  have H1 : ∀ o : Obj, ((w.alloc o).alloc o).drew.heap[w.heap.size + 1]? = some o := fun o => by
    have e : w.heap.size + 1 = (w.alloc o).heap.size := by simp
    rw [e]; exact heap_alloc_new (w.alloc o) o
  replace H1 := H1 (.cells #[.int .i64 t.kind, .string ⟨t.name.toArray⟩, .slice A t.attrs.length c, .string ⟨t.text.toArray⟩] 48)
  have F2 : ∀ o : Obj, ((w.alloc o).alloc o).drew.frozen? ⟨sb, 1, none⟩ = false := fun o => Lib.frozen_of_heap (by show ((w.alloc o).alloc o).heap[sb]? = _; rw [heap_alloc_old _ _ (by simp; omega), heap_alloc_old _ _ lg]; exact hblk) 1
  have F3 : ∀ o : Obj, (w.alloc o).drew.frozen? ⟨sb, 1, none⟩ = false := fun o => Lib.frozen_of_heap (by show (w.alloc o).heap[sb]? = _; rw [heap_alloc_old _ _ lg]; exact hblk) 1
  replace F2 := F2 (.cells #[.int .i64 t.kind, .string ⟨t.name.toArray⟩, .slice A t.attrs.length c, .string ⟨t.text.toArray⟩] 48)
  replace F3 := F3 (.cells #[.int .i64 t.kind, .string ⟨t.name.toArray⟩, .slice A t.attrs.length c, .string ⟨t.text.toArray⟩] 48)
  have G2 : ∀ (o : Obj) (w1 : World) (row : Option Nat), ((w.alloc o).alloc o).drew.grownBy w1 row → some sb ≠ row → w1.frozen? ⟨sb, 1, none⟩ = false := fun o w1 row hg hr => by
    rw [hg.frozen_far _ (by simp; omega) hr]
    exact Lib.frozen_of_heap (by show ((w.alloc o).alloc o).heap[sb]? = _; rw [heap_alloc_old _ _ (by simp; omega), heap_alloc_old _ _ lg]; exact hblk) 1
  have G1 : ∀ (o : Obj) (w1 : World) (row : Option Nat), ((w.alloc o).alloc o).drew.grownBy w1 row → some sb ≠ row → w1.cell? ⟨sb, 1, none⟩ = some v := fun o w1 row hg hr => by
    rw [hg.cell_far _ (by simp; omega) hr, ← c1]
    exact World.cell?_of_block (by show ((w.alloc o).alloc o).heap[sb]? = _; rw [heap_alloc_old _ _ (by simp; omega), heap_alloc_old _ _ lg])
  have HROW := Lib.hid hrow; have HAT := Lib.hid hattrs; have HBLK := Lib.hid hblk; have HA := Lib.hid ha
  clear hrow hattrs hblk ha
  subst hv2
  unfold st
  go_enter Tryz.func64, Tryz.ntmps64
  go_wp2_with fail
  go_region_law (first | ((refine step_append_lies _ (by rfl) _ _ _ (by rfl) B 48 i0 _ 4 64 Tryz.underlying45 hi hz0 hz1 hz2 rfl (by omega) (.slice A2 ts.length c2) ts.length (tkCells ts) (by rfl) (((HROW.out.alloc _).alloc _).drew) ⟨w.heap.size + 1, 0, none⟩ 1 1 [.int .i64 t.kind, .string ⟨t.name.toArray⟩, .slice A t.attrs.length c, .string ⟨t.text.toArray⟩] (by rfl) (by rfl) (World.news_of_block (cs := #[.int .i64 t.kind, .string ⟨t.name.toArray⟩, .slice A t.attrs.length c, .string ⟨t.text.toArray⟩]) (t := 48) (fr := (0, 0)) H1) (by simp [Value.oneCell']) (by omega) (by unfold maxLen; omega) (by omega) (by simp; omega) (w.heap.size + 2) (by simp) ?_; intro gg cap w1 hown1 hgrow hat hlt; have hfz := G2 _ _ _ hgrow (Ne.symm hne); have hce := G1 _ _ _ hgrow (Ne.symm hne))))
  all_goals (go_wp2_with fail)
  all_goals (go_end0)
  all_goals exact ⟨rfl, add_done hBs hB HBLK.out HROW.out HAT.out HA.out hne hown1 hgrow⟩
end Go.Proofs.YtdmmeinkligmcaaGreatDoor
