/- ent.names: a map of sixteen names; what a look-up in it answers. -/
import Derived.Test.YtdmmeinkligmcaaGreatDoorKit
import Derived.Laws.Runes
import Derived.ChangeMaps4
set_option linter.unusedVariables false
set_option maxRecDepth 100000
set_option maxHeartbeats 2000000
namespace Go.Proofs.YtdmmeinkligmcaaGreatDoor
open Go.RowKit

/-- The entries of a map literal with string keys, laid one behind the other. -/
def entsFrom (i : Nat) : List (Bs × Int) → List MapEntry
  | [] => []
  | (k, v) :: r => { key := .string ⟨k.toArray⟩, val := .int .i32 v, born := i } :: entsFrom (i + 1) r
def lookAt (k : Bs) (i : Nat) : List (Bs × Int) → Option (Nat × Int)
  | [] => none
  | (k', v) :: r => if k == k' then some (i, v) else lookAt k (i + 1) r
theorem beq_mk (a : ByteArray) (l : Bs) : (a == (⟨l.toArray⟩ : ByteArray)) = (a.data.toList == l) := by
  cases a with
  | mk d =>
    show (d == l.toArray) = (d.toList == l)
    rw [Bool.eq_iff_iff, beq_iff_eq, beq_iff_eq]
    constructor
    · rintro rfl; rfl
    · intro h; rw [← h]
theorem findNow_ents (k : ByteArray) (tab : List (Bs × Int)) : ∀ (i j : Nat), Instr.findNow .string (.string k) (entsFrom i tab) j = some ((lookAt k.data.toList j tab).map fun p => (p.1, .int .i32 p.2)) := by
  induction tab with
  | nil => intro i j; rfl
  | cons p r ih =>
    intro i j
    obtain ⟨k', v⟩ := p
    simp only [entsFrom, Instr.findNow, Instr.sameNow, beq_mk, lookAt]
    cases h : (k.data.toList == k')
    · simp only [ih]; rfl
    · rfl
theorem entsFrom_snoc (tab : List (Bs × Int)) (k : Bs) (v : Int) : ∀ i, entsFrom i (tab ++ [(k, v)]) = entsFrom i tab ++ [{ key := .string ⟨k.toArray⟩, val := .int .i32 v, born := i + tab.length }] := by
  induction tab with
  | nil => intro i; simp [entsFrom]
  | cons p r ih => intro i; obtain ⟨k', v'⟩ := p; simp [entsFrom, ih]; omega
def namesTab : List (Bs × Int) := [([97, 109, 112], 38), ([108, 116], 60), ([103, 116], 62), ([113, 117, 111, 116], 34), ([97, 112, 111, 115], 39), ([110, 98, 115, 112], 160), ([99, 111, 112, 121], 169), ([114, 101, 103], 174), ([104, 101, 108, 108, 105, 112], 8230), ([110, 100, 97, 115, 104], 8211), ([109, 100, 97, 115, 104], 8212), ([101, 117, 114, 111], 8364), ([108, 115, 113, 117, 111], 8216), ([114, 115, 113, 117, 111], 8217), ([108, 100, 113, 117, 111], 8220), ([114, 100, 113, 117, 111], 8221)]
def entN (n : Nat) : Array MapEntry := (entsFrom 0 (namesTab.take n)).toArray
theorem run_insert (w : World) (n : Nat) (k : Bs) (v : Int) (h : namesTab[n]? = some (k, v)) (hn : lookAt k 0 (namesTab.take n) = none) :
    (Instr.mapUpdate 107 (.map (some w.heap.size)) (.string ⟨k.toArray⟩) (.int .i32 v)).run Tryz.prog (w.alloc (.map (entN n) n)) = .ok () (w.alloc (.map (entN (n + 1)) (n + 1))) := by
  have hf := findNow_ents ⟨k.toArray⟩ (namesTab.take n) 0 0
  rw [show (⟨k.toArray⟩ : ByteArray).data.toList = k from rfl, hn, Option.map_none] at hf
  replace hf : Instr.findNow .string (.string ⟨k.toArray⟩) (entN n).toList 0 = some none := hf
  have ho : (w.alloc (.map (entN n) n)).heap[w.heap.size]? = some (.map (entN n) n) := heap_alloc_new w _
  have he : (entN n).push { key := .string ⟨k.toArray⟩, val := .int .i32 v, born := n } = entN (n + 1) := by
    have hl : n < namesTab.length := (List.getElem?_eq_some_iff.1 h).1
    have : namesTab.take (n + 1) = namesTab.take n ++ [(k, v)] := by rw [List.take_add_one, h]; rfl
    simp only [entN, this, entsFrom_snoc]
    have : (namesTab.take n).length = n := by simp; omega
    simp [this]
  have hk : MapKept.IsKey .string (.string (⟨k.toArray⟩ : ByteArray)) := trivial
  have hq : (w.alloc (.map (entN n) n)).heap.setIfInBounds w.heap.size (.map (entN (n + 1)) (n + 1)) = (w.alloc (.map (entN (n + 1)) (n + 1))).heap := by
    show (w.heap.push _).setIfInBounds w.heap.size _ = w.heap.push _
    apply Array.ext_getElem?
    intro i
    rw [Array.getElem?_setIfInBounds, Array.getElem?_push, Array.getElem?_push, Array.size_push]
    by_cases e : w.heap.size = i
    · subst e; simp
    · rw [if_neg e, if_neg (fun h => e h.symm), if_neg (fun h => e h.symm)]
  have hset : ∀ o, (setObj w.heap.size o).run Tryz.prog (w.alloc (.map (entN n) n)) = .ok () { w.alloc (.map (entN n) n) with heap := (w.alloc (.map (entN n) n)).heap.setIfInBounds w.heap.size o } := fun o => MapKept.run_setObj_map o ho
  simp only [Instr.mapUpdate]
  simp [run_underlying Tryz.underlying107, MapKept.run_getObj_map ho, MapKept.run_checkKey Tryz.underlying9 hk, MapKept.run_findKey Tryz.underlying9 hf, hset, he, Result.andThen]
  rw [hq]
  rfl

theorem names_any (w : World) :
    Calls Tryz.prog 88 #[] w fun e w' => e = .returned (.map (some w.heap.size)) ∧ w' = w.alloc (.map (entN 16) 16) := by
  have hmm := @run_makeMap Tryz.prog
  have h0 : (Instr.mapUpdate 107 (.map (some w.heap.size)) (.string ⟨#[97, 109, 112]⟩) (.int .i32 38)).run Tryz.prog (w.alloc (.map #[] 0)) = .ok () (w.alloc (.map (entN 1) 1)) := run_insert w 0 _ _ rfl (by decide)
  have h1 : (Instr.mapUpdate 107 (.map (some w.heap.size)) (.string ⟨#[108, 116]⟩) (.int .i32 60)).run Tryz.prog (w.alloc (.map (entN 1) 1)) = .ok () (w.alloc (.map (entN 2) 2)) := run_insert w 1 _ _ rfl (by decide)
  have h2 : (Instr.mapUpdate 107 (.map (some w.heap.size)) (.string ⟨#[103, 116]⟩) (.int .i32 62)).run Tryz.prog (w.alloc (.map (entN 2) 2)) = .ok () (w.alloc (.map (entN 3) 3)) := run_insert w 2 _ _ rfl (by decide)
  have h3 : (Instr.mapUpdate 107 (.map (some w.heap.size)) (.string ⟨#[113, 117, 111, 116]⟩) (.int .i32 34)).run Tryz.prog (w.alloc (.map (entN 3) 3)) = .ok () (w.alloc (.map (entN 4) 4)) := run_insert w 3 _ _ rfl (by decide)
  have h4 : (Instr.mapUpdate 107 (.map (some w.heap.size)) (.string ⟨#[97, 112, 111, 115]⟩) (.int .i32 39)).run Tryz.prog (w.alloc (.map (entN 4) 4)) = .ok () (w.alloc (.map (entN 5) 5)) := run_insert w 4 _ _ rfl (by decide)
  have h5 : (Instr.mapUpdate 107 (.map (some w.heap.size)) (.string ⟨#[110, 98, 115, 112]⟩) (.int .i32 160)).run Tryz.prog (w.alloc (.map (entN 5) 5)) = .ok () (w.alloc (.map (entN 6) 6)) := run_insert w 5 _ _ rfl (by decide)
  have h6 : (Instr.mapUpdate 107 (.map (some w.heap.size)) (.string ⟨#[99, 111, 112, 121]⟩) (.int .i32 169)).run Tryz.prog (w.alloc (.map (entN 6) 6)) = .ok () (w.alloc (.map (entN 7) 7)) := run_insert w 6 _ _ rfl (by decide)
  have h7 : (Instr.mapUpdate 107 (.map (some w.heap.size)) (.string ⟨#[114, 101, 103]⟩) (.int .i32 174)).run Tryz.prog (w.alloc (.map (entN 7) 7)) = .ok () (w.alloc (.map (entN 8) 8)) := run_insert w 7 _ _ rfl (by decide)
  have h8 : (Instr.mapUpdate 107 (.map (some w.heap.size)) (.string ⟨#[104, 101, 108, 108, 105, 112]⟩) (.int .i32 8230)).run Tryz.prog (w.alloc (.map (entN 8) 8)) = .ok () (w.alloc (.map (entN 9) 9)) := run_insert w 8 _ _ rfl (by decide)
  have h9 : (Instr.mapUpdate 107 (.map (some w.heap.size)) (.string ⟨#[110, 100, 97, 115, 104]⟩) (.int .i32 8211)).run Tryz.prog (w.alloc (.map (entN 9) 9)) = .ok () (w.alloc (.map (entN 10) 10)) := run_insert w 9 _ _ rfl (by decide)
  have h10 : (Instr.mapUpdate 107 (.map (some w.heap.size)) (.string ⟨#[109, 100, 97, 115, 104]⟩) (.int .i32 8212)).run Tryz.prog (w.alloc (.map (entN 10) 10)) = .ok () (w.alloc (.map (entN 11) 11)) := run_insert w 10 _ _ rfl (by decide)
  have h11 : (Instr.mapUpdate 107 (.map (some w.heap.size)) (.string ⟨#[101, 117, 114, 111]⟩) (.int .i32 8364)).run Tryz.prog (w.alloc (.map (entN 11) 11)) = .ok () (w.alloc (.map (entN 12) 12)) := run_insert w 11 _ _ rfl (by decide)
  have h12 : (Instr.mapUpdate 107 (.map (some w.heap.size)) (.string ⟨#[108, 115, 113, 117, 111]⟩) (.int .i32 8216)).run Tryz.prog (w.alloc (.map (entN 12) 12)) = .ok () (w.alloc (.map (entN 13) 13)) := run_insert w 12 _ _ rfl (by decide)
  have h13 : (Instr.mapUpdate 107 (.map (some w.heap.size)) (.string ⟨#[114, 115, 113, 117, 111]⟩) (.int .i32 8217)).run Tryz.prog (w.alloc (.map (entN 13) 13)) = .ok () (w.alloc (.map (entN 14) 14)) := run_insert w 13 _ _ rfl (by decide)
  have h14 : (Instr.mapUpdate 107 (.map (some w.heap.size)) (.string ⟨#[108, 100, 113, 117, 111]⟩) (.int .i32 8220)).run Tryz.prog (w.alloc (.map (entN 14) 14)) = .ok () (w.alloc (.map (entN 15) 15)) := run_insert w 14 _ _ rfl (by decide)
  have h15 : (Instr.mapUpdate 107 (.map (some w.heap.size)) (.string ⟨#[114, 100, 113, 117, 111]⟩) (.int .i32 8221)).run Tryz.prog (w.alloc (.map (entN 15) 15)) = .ok () (w.alloc (.map (entN 16) 16)) := run_insert w 15 _ _ rfl (by decide)
  go_enter Tryz.func88, Tryz.ntmps88
  go_wp2
  go_ret
  exact ⟨rfl, rfl⟩

/-- A look-up in the names: the sign, and whether it is there. -/
def nameOf (k : Bs) : Option Int := (lookAt k 0 namesTab).map (·.2)
theorem names_look (w : World) (k : ByteArray) :
    (Instr.lookup 107 (.map (some w.heap.size)) (.string k) true).run Tryz.prog (w.alloc (.map (entN 16) 16)) = .ok (.tuple #[.int .i32 ((nameOf k.data.toList).getD 0), .bool (nameOf k.data.toList).isSome]) (w.alloc (.map (entN 16) 16)) := by
  have hf := findNow_ents k namesTab 0 0
  replace hf : Instr.findNow .string (.string k) (entN 16).toList 0 = _ := hf
  have ho : (w.alloc (.map (entN 16) 16)).heap[w.heap.size]? = some (.map (entN 16) 16) := heap_alloc_new w _
  have hk : MapKept.IsKey .string (.string k) := trivial
  have hz : ∀ w, (zeroValue 21).run Tryz.prog w = .ok (.int .i32 0) w := fun _ => by kernel_rfl
  unfold nameOf
  cases h : lookAt k.data.toList 0 namesTab with
  | none =>
    rw [h, Option.map_none] at hf
    simp [Instr.lookup, run_underlying Tryz.underlying107, MapKept.run_getObj_map ho, MapKept.run_checkKey Tryz.underlying9 hk, MapKept.run_findKey Tryz.underlying9 hf, hz, Result.andThen]
  | some p =>
    rw [h, Option.map_some] at hf
    simp [Instr.lookup, run_underlying Tryz.underlying107, MapKept.run_getObj_map ho, MapKept.run_checkKey Tryz.underlying9 hk, MapKept.run_findKey Tryz.underlying9 hf, Result.andThen]
end Go.Proofs.YtdmmeinkligmcaaGreatDoor
