/- (*scanner).chars. -/
import Derived.Test.YtdmmeinkligmcaaGreatDoorScan1
import Derived.BigQuiet
import Derived.Deep.Cut
set_option linter.unusedVariables false
set_option maxRecDepth 100000
set_option maxHeartbeats 2000000
namespace Go.Proofs.YtdmmeinkligmcaaGreatDoor
open Go.RowKit

def toks (ts : List (Tk × Value)) : List Tk := ts.map (·.1)
def charsK (ts : List Tk) (t : Bs) : List Tk :=
  if t = [] then ts else
  match ts.getLast? with
  | some k => if k.kind = 1 then ts.dropLast ++ [{ k with text := k.text ++ t }] else ts ++ [⟨1, [], [], t⟩]
  | none => ts ++ [⟨1, [], [], t⟩]
theorem charsK_nil (ts : List Tk) : charsK ts [] = ts := by simp [charsK]
theorem charsK_none (t : Bs) (h : t ≠ []) : charsK [] t = [⟨1, [], [], t⟩] := by simp [charsK, h]
theorem charsK_join (ts : List Tk) (k : Tk) (t : Bs) (h : t ≠ []) (hk : k.kind = 1) : charsK (ts ++ [k]) t = ts ++ [{ k with text := k.text ++ t }] := by simp [charsK, h, hk]
theorem charsK_new (ts : List Tk) (k : Tk) (t : Bs) (h : t ≠ []) (hk : k.kind ≠ 1) : charsK (ts ++ [k]) t = (ts ++ [k]) ++ [⟨1, [], [], t⟩] := by simp [charsK, h, hk]
theorem charsK_len (ts : List Tk) (t : Bs) : (charsK ts t).length ≤ ts.length + 1 := by
  unfold charsK
  split
  · omega
  · split
    · split
      · simp only [List.length_append, List.length_dropLast, List.length_cons, List.length_nil]; omega
      · simp
    · simp
def textsum (ts : List Tk) : Nat := (ts.map (·.text.length)).sum
theorem textsum_app (a b : List Tk) : textsum (a ++ b) = textsum a + textsum b := by simp [textsum]
theorem charsK_sum (ts : List Tk) (t : Bs) : textsum (charsK ts t) = textsum ts + t.length := by
  by_cases h : t = []
  · subst h; simp [charsK]
  rcases List.eq_nil_or_concat ts with e | ⟨l, k, e⟩
  · subst e; rw [charsK_none t h]; simp [textsum]
  · rw [List.concat_eq_append] at e
    subst e
    by_cases hk : k.kind = 1
    · rw [charsK_join l k t h hk]; simp [textsum]; omega
    · rw [charsK_new l k t h hk, textsum_app]; simp [textsum]
theorem mk_app (a b : Bs) : (⟨a.toArray⟩ : ByteArray) ++ ⟨b.toArray⟩ = ⟨(a ++ b).toArray⟩ := ByteArray.ext (by simp)
/-- One cell of the row that an owned slice shows is written. -/
theorem own_set {w : World} {base : Nat} {e : TypeId} {size n cap g : Nat} {xs : List Value} (h : w.ownsRow base e size (.slice (some ⟨g, 0, none⟩) n cap) n xs) (j : Nat) (hj : j < n * size) (u : Value) :
    (w.setCell ⟨g, j, none⟩ u).ownsRow base e size (.slice (some ⟨g, 0, none⟩) n cap) n (xs.set j u) := by
  obtain ⟨h1, h2⟩ := h
  refine ⟨by simp [h1], .inr ?_⟩
  rcases h2 with ⟨e1, _⟩ | ⟨g', cap', cur, e1, hg, hh, a1, a2, a3, a4⟩
  · cases e1
  · cases e1
    refine ⟨g, cap, cur.setIfInBounds j u, rfl, hg, Lib.heap_setCell_same hh u, a1, a2, by simp [a3], ?_⟩
    rw [Array.toList_setIfInBounds, ← a4, List.take_set]
theorem tkCells_len (ts : List (Tk × Value)) : (tkCells ts).length = ts.length * 4 := by
  induction ts with
  | nil => rfl
  | cons a l ih => simp only [tkCells, List.flatMap_cons, List.length_append] at ih ⊢; rw [ih]; simp [tkCell]; omega
theorem tkCells_last (ts : List (Tk × Value)) (p : Tk × Value) (j : Nat) : (tkCells (ts ++ [p]))[ts.length * 4 + j]? = (tkCell p)[j]? := by
  rw [tkCells_snoc, List.getElem?_append_right (by rw [tkCells_len]; omega), tkCells_len]
  congr 1; omega
theorem tkCells_set (ts : List (Tk × Value)) (p : Tk × Value) (t : Bs) : (tkCells (ts ++ [p])).set (ts.length * 4 + 3) (st t) = tkCells (ts ++ [({ p.1 with text := t }, p.2)]) := by
  rw [tkCells_snoc, tkCells_snoc, List.set_append_right _ _ (by rw [tkCells_len]; omega), tkCells_len]
  congr 1
  rw [show ts.length * 4 + 3 - ts.length * 4 = 3 by omega]
  simp [tkCell]
theorem ScanAt.app {w : World} {B sb g cap : Nat} {rest : Bs} {ts : List (Tk × Value)} {p : Tk × Value} (h : ScanAt w B sb rest (ts ++ [p])) (hv : w.cell? ⟨sb, 1, none⟩ = some (.slice (some ⟨g, 0, none⟩) (ts ++ [p]).length cap)) (hg : B ≤ g) (t : Bs) :
    ScanAt (w.setCell ⟨g, ts.length * 4 + 3, none⟩ (st t)) B sb rest (ts ++ [({ p.1 with text := t }, p.2)]) ∧ Below B w (w.setCell ⟨g, ts.length * 4 + 3, none⟩ (st t)) := by
  obtain ⟨hBs, v, hb, hrow, hat⟩ := h
  rw [Lib.cell_of_heap hb] at hv
  have hv' : v = .slice (some ⟨g, 0, none⟩) (ts ++ [p]).length cap := by simpa using hv
  subst hv'
  have hgs : g ≠ sb := fun e => own_ne hrow hb (by decide) (by simp [Value.ownBlock, e])
  refine ⟨⟨hBs, .slice (some ⟨g, 0, none⟩) (ts ++ [p]).length cap, ?_, ?_, ?_⟩, (Below.refl B w).setCell hg _⟩
  · rw [Below.heap_setCell _ _ _ sb (Ne.symm hgs)]; exact hb
  · have := own_set hrow (ts.length * 4 + 3) (by simp; omega) (st t)
    rw [tkCells_set] at this
    simpa using this
  · have keep : ∀ (l : List At) (u : Value), RA w B u l → RA (w.setCell ⟨g, ts.length * 4 + 3, none⟩ (st t)) B u l := fun l u hu => by
      refine own_kept hu (fun k hk => Below.heap_setCell _ _ _ k (fun e => ?_))
      have e' : k = g := e
      rw [e'] at hk
      obtain ⟨cs, hc⟩ := own_type hu g hk
      obtain ⟨cs', hc'⟩ := own_type hrow g (by simp [Value.ownBlock])
      rw [hc] at hc'; simp at hc'
    intro q hq
    rcases List.mem_append.1 hq with hq | hq
    · exact keep _ _ (hat q (by simp [hq]))
    · rw [List.mem_singleton] at hq; subst hq; exact keep _ _ (hat p (by simp))

set_option maxHeartbeats 300000 in
theorem chars_any (B sb : Nat) (rest : Bs) (ts : List (Tk × Value)) (t : Bs) (w : World) (h : ScanAt w B sb rest ts) (hlen : ts.length ≤ 100000) (hsum : textsum (toks ts) + t.length ≤ 1000000000) (hB : B ≤ w.heap.size) :
    Calls Tryz.prog 44 #[.pointer (some ⟨sb, 0, none⟩), st t] w fun e w' => e = .returned (.tuple #[]) ∧ ∃ ts', toks ts' = charsK (toks ts) t ∧ ScanAt w' B sb rest ts' ∧ Below B w w' := by
  have hb := h
  obtain ⟨hBs, v, hblk, hrow, hattrs⟩ := hb
  have c1 : w.cell? ⟨sb, 1, none⟩ = some v := by rw [Lib.cell_of_heap hblk]; rfl
  have c1d : w.drew.cell? ⟨sb, 1, none⟩ = some v := c1
  have f1 : w.frozen? ⟨sb, 1, none⟩ = false := Lib.frozen_of_heap hblk 1
  obtain ⟨A2, c2, hv2, hcap, hmax, hrows⟩ := own_form hrow
  have HS := Lib.hid h
  clear hrow hattrs hblk h
  subst hv2
  by_cases h0 : t = []
  · subst h0
    unfold st
    go_enter Tryz.func44, Tryz.ntmps44
    go_wp2_with fail
    go_end0
    exact ⟨rfl, ts, by rw [charsK_nil], HS.out, Below.refl _ _⟩
  · have hem : t.isEmpty = false := by simpa using h0
    rcases List.eq_nil_or_concat ts with e | ⟨ts0, p, e⟩
    · subst e
      unfold st
      go_enter Tryz.func44, Tryz.ntmps44
      go_wp2_with fail
      refine (add_any B sb rest [] ⟨1, [], [], t⟩ (.slice none 0 0) w HS.out (RA.nil w B) (by simp) hB).mono ?_
      rintro e w1 ⟨rfl, hs1, hb1⟩
      go_wp2_with fail
      go_end0
      exact ⟨rfl, _, by simp [toks, charsK_none t h0], hs1, hb1⟩
    · rw [List.concat_eq_append] at e
      subst e
      have hp := hrows (by simp)
      obtain ⟨g, rfl, hgB, hgs, hcell⟩ := hp
      have d0 := hcell (ts0.length * 4) (.int .i64 p.1.kind) (by have := tkCells_last ts0 p 0; simpa [tkCell] using this)
      have d3 := hcell (ts0.length * 4 + 3) (st p.1.text) (by have := tkCells_last ts0 p 3; simpa [tkCell] using this)
      have hrowf : w.frozen? ⟨g, ts0.length * 4 + 3, none⟩ = false := by
        obtain ⟨_, v', hb', hr', _⟩ := HS.out
        rw [Lib.cell_of_heap hb'] at c1
        have e1 : v' = .slice (some ⟨g, 0, none⟩) (ts0 ++ [p]).length c2 := by simpa using c1
        subst e1
        obtain ⟨cs, hc⟩ := own_type hr' g (by simp [Value.ownBlock])
        exact Lib.frozen_of_heap hc _
      clear hcell hrows
      have H2 := Lib.hid h0
      have hmb : ts0.length + 1 ≤ 100000 := by simpa using hlen
      have c1' : w.cell? ⟨sb, 1, none⟩ = some (.slice (some ⟨g, 0, none⟩) (ts0.length + 1) c2) := by simpa using c1
      have hw64 : wrap64 (ts0.length : Int) = ts0.length := IntWalk.wrap64_in _ (by omega)
      by_cases hk : p.1.kind = 1
      · have hD := ScanAt.app HS.out (by simpa using c1) hgB (p.1.text ++ t)
        have HD := Lib.hid hD
        have HK := Lib.hid hk
        have HSUM : Hid (p.1.text.length + t.length ≤ 1000000000) := Lib.hid (by have := hsum; simp [toks, textsum] at this; omega)
        clear hsum
        rw [hk] at d0
        clear hD h0 hk hlen hcap c1 c1d HS
        generalize hm : ts0.length = m at *
        generalize hpt : p.1.text = pt at *
        have HM := Lib.hid hm
        have HPT := Lib.hid hpt
        clear hm hpt
        unfold st at *
        go_enter Tryz.func44, Tryz.ntmps44
        go_wp2_with fail
        · exact absurd (by assumption) (by have := HSUM.out; omega)
        · go_end0
          refine ⟨rfl, _, ?_, by have := HD.out; rw [← HM.out] at this ⊢; rw [mk_app]; exact this⟩
          rw [← HPT.out]
          simpa [toks] using (charsK_join (toks ts0) p.1 t H2.out HK.out).symm
      · have HK := Lib.hid hk
        have hk2 : (p.1.kind == 1) = false := by simpa using hk
        have HA := add_any B sb rest (ts0 ++ [p]) ⟨1, [], [], t⟩ (.slice none 0 0) w HS.out (RA.nil w B) hlen hB
        replace HA := Lib.hid HA
        clear hsum h0 hk hlen hcap c1 c1d HS
        generalize hm : ts0.length = m at *
        generalize hpk : p.1.kind = pk at *
        generalize hpt : p.1.text = pt at *
        have HM := Lib.hid hm
        have HPT := Lib.hid hpt
        have HPK := Lib.hid hpk
        clear hm hpt hpk
        unfold st at *
        go_enter Tryz.func44, Tryz.ntmps44
        go_wp2_with fail
        refine HA.out.mono ?_
        rintro e w1 ⟨rfl, hs1, hb1⟩
        go_wp2_with fail
        go_end0
        refine ⟨rfl, _, ?_, hs1, hb1⟩
        simpa [toks] using (charsK_new (toks ts0) p.1 t H2.out (by rw [HPK.out]; exact HK.out)).symm
end Go.Proofs.YtdmmeinkligmcaaGreatDoor
