/- (*scanner).comment, (*scanner).remark. -/
import Derived.Test.YtdmmeinkligmcaaGreatDoorScan2
set_option linter.unusedVariables false
set_option maxRecDepth 100000
set_option maxHeartbeats 2000000
namespace Go.Proofs.YtdmmeinkligmcaaGreatDoor
open Go.RowKit

theorem below_weak {B C : Nat} {w w' : World} (h : Below C w w') (hBC : B ≤ C) : Below B w w' := h.mono hBC
/-- The package-level variables stand below block B as the walks ask. -/
def GB (B : Nat) (w : World) : Prop := ∃ W0, Glob W0 ∧ W0.heap.size ≤ B ∧ Below W0.heap.size W0 w
theorem GB.glob {B : Nat} {w : World} (h : GB B w) : Glob w := by
  obtain ⟨W0, h1, _, h3⟩ := h; exact h1.below h3
theorem GB.next {B : Nat} {w w' : World} (h : GB B w) (hb : Below B w w') : GB B w' := by
  obtain ⟨W0, h1, h2, h3⟩ := h; exact ⟨W0, h1, h2, h3.trans (hb.mono h2)⟩
theorem GB.start {w : World} (h : Glob w) : GB w.heap.size w := ⟨w, h, Nat.le_refl _, Below.refl _ _⟩
structure SC (w : World) (B sb : Nat) (rest : Bs) (ts : List (Tk × Value)) : Prop where
  sc : ScanAt w B sb rest ts
  gb : GB B w
  le : B ≤ w.heap.size
theorem ScanAt.below {w w' : World} {B sb : Nat} {rest : Bs} {ts : List (Tk × Value)} (h : ScanAt w B sb rest ts) (hb : Below w.heap.size w w') : ScanAt w' B sb rest ts := by
  obtain ⟨h1, v, h2, h3, h4⟩ := h
  exact ⟨h1, v, by rw [hb.block _ (Array.getElem?_eq_some_iff.1 h2).1]; exact h2, own_below h3 hb, fun p hp => (h4 p hp).below hb⟩
theorem SC.below {w w' : World} {B sb : Nat} {rest : Bs} {ts : List (Tk × Value)} (h : SC w B sb rest ts) (hb : Below w.heap.size w w') : SC w' B sb rest ts :=
  ⟨h.sc.below hb, h.gb.next (hb.mono h.le), Nat.le_trans h.le hb.size⟩
theorem SC.next {w w' : World} {B sb : Nat} {rest rest' : Bs} {ts ts' : List (Tk × Value)} (h : SC w B sb rest ts) (h' : ScanAt w' B sb rest' ts') (hb : Below B w w') : SC w' B sb rest' ts' :=
  ⟨h', h.gb.next hb, Nat.le_trans h.le hb.size⟩
theorem SC.drewN {w : World} {B sb : Nat} {rest : Bs} {ts : List (Tk × Value)} (h : SC w B sb rest ts) (n : Nat) : SC (w.drewN n) B sb rest ts := h.below (below_drewN (Below.refl _ _) n)
theorem SC.drew {w : World} {B sb : Nat} {rest : Bs} {ts : List (Tk × Value)} (h : SC w B sb rest ts) : SC w.drew B sb rest ts := h.drewN 1
/-- The scanner's rest is written. -/
theorem SC.rest {w : World} {B sb : Nat} {rest : Bs} {ts : List (Tk × Value)} (h : SC w B sb rest ts) (r : Bs) : SC (w.setCell ⟨sb, 0, none⟩ (.string ⟨r.toArray⟩)) B sb r ts ∧ Below B w (w.setCell ⟨sb, 0, none⟩ (.string ⟨r.toArray⟩)) := by
  have hb := (Below.refl B w).setCell (p := ⟨sb, 0, none⟩) h.sc.1 (.string ⟨r.toArray⟩)
  refine ⟨h.next ?_ hb, hb⟩
  obtain ⟨h1, v, h2, h3, h4⟩ := h.sc
  refine ⟨h1, v, by rw [Lib.heap_setCell_same h2]; rfl, own_kept h3 (fun k hk => Below.heap_setCell _ _ _ k ?_), fun p hp => own_kept (h4 p hp) (fun k hk => Below.heap_setCell _ _ _ k ?_)⟩
  · intro e
    have e' : k = sb := e
    rw [e'] at hk; exact own_ne h3 h2 (by decide) hk
  · intro e
    have e' : k = sb := e
    rw [e'] at hk; exact own_ne (h4 p hp) h2 (by decide) hk
theorem SC.c0 {w : World} {B sb : Nat} {rest : Bs} {ts : List (Tk × Value)} (h : SC w B sb rest ts) : w.cell? ⟨sb, 0, none⟩ = some (.string ⟨rest.toArray⟩) := by
  obtain ⟨h1, v, h2, h3, h4⟩ := h.sc
  rw [Lib.cell_of_heap h2]; rfl
theorem SC.f0 {w : World} {B sb : Nat} {rest : Bs} {ts : List (Tk × Value)} (h : SC w B sb rest ts) : w.frozen? ⟨sb, 0, none⟩ = false := by
  obtain ⟨h1, v, h2, h3, h4⟩ := h.sc
  exact Lib.frozen_of_heap h2 0
theorem toks_snoc (ts : List (Tk × Value)) (p : Tk × Value) : toks (ts ++ [p]) = toks ts ++ [p.1] := by simp [toks]

def commentS (s e : Bs) (ts : List Tk) : Bs × List Tk := ((Lib.cut s e).2.1, ts ++ [⟨4, [], [], (Lib.cut s e).1⟩])
theorem comment_any (B sb : Nat) (rest : Bs) (ts : List (Tk × Value)) (s e : Bs) (w : World) (h : SC w B sb rest ts) (hlen : ts.length ≤ 100000) (hs : s.length ≤ 1000000000) :
    Calls Tryz.prog 71 #[.pointer (some ⟨sb, 0, none⟩), .string ⟨s.toArray⟩, .string ⟨e.toArray⟩] w fun en w' => en = .returned (.tuple #[]) ∧ ∃ ts', toks ts' = (commentS s e (toks ts)).2 ∧ SC w' B sb (commentS s e (toks ts)).1 ts' ∧ Below B w w' := by
  obtain ⟨m, hm⟩ := h.gb.glob.maxlen
  have HCUT : Hid (HM m w → Calls Tryz.prog 65 #[.string ⟨s.toArray⟩, .string ⟨e.toArray⟩] w fun en w' => en = .returned (.tuple #[.string ⟨(Lib.cut s e).1.toArray⟩, .string ⟨(Lib.cut s e).2.1.toArray⟩, .bool (Lib.cut s e).2.2]) ∧ ∃ n, w' = w.drewN n) := Lib.hid (fun hm => Tryz.strings_Cut ⟨s.toArray⟩ ⟨e.toArray⟩ m w (by rw [size_mk]; omega) hm)
  have HM' := Lib.hid hm
  have HS := Lib.hid h
  clear hm h
  unfold commentS
  generalize Lib.cut s e = u at *
  obtain ⟨u1, u2, u3⟩ := u
  go_enter Tryz.func71, Tryz.ntmps71
  go_wp2_with fail
  refine (HCUT.out HM'.out).mono ?_
  rintro e1 w1 ⟨rfl, n, rfl⟩
  have HS1 := Lib.hid (HS.out.drewN n)
  go_wp2_with fail
  refine (add_any B sb rest ts ⟨4, [], [], u1⟩ (.slice none 0 0) _ HS1.out.sc (RA.nil _ B) hlen HS1.out.le).mono ?_
  rintro e2 w2 ⟨rfl, hs2, hb2⟩
  have HS2 := HS1.out.next hs2 hb2
  have hc := HS2.c0
  have hf := HS2.f0
  have HF := Lib.hid (HS2.rest u2)
  clear hs2 HS2
  go_wp2_with fail
  go_end0
  exact ⟨rfl, _, by rw [toks_snoc], HF.out.1, ((below_drewN (Below.refl B w) n).trans hb2).trans HF.out.2⟩

def remarkS (s : Bs) (ts : List Tk) : Bs × List Tk :=
  if Lib.hasPrefix s [62] then (Lib.trimPrefix s [62], ts ++ [⟨4, [], [], []⟩])
  else if Lib.hasPrefix s [45, 62] then (Lib.trimPrefix s [45, 62], ts ++ [⟨4, [], [], []⟩])
  else commentS s [45, 45, 62] ts
theorem remark_any (B sb : Nat) (rest : Bs) (ts : List (Tk × Value)) (s : Bs) (w : World) (h : SC w B sb rest ts) (hlen : ts.length ≤ 100000) (hs : s.length ≤ 1000000000) :
    Calls Tryz.prog 73 #[.pointer (some ⟨sb, 0, none⟩), .string ⟨s.toArray⟩] w fun en w' => en = .returned (.tuple #[]) ∧ ∃ ts', toks ts' = (remarkS s (toks ts)).2 ∧ SC w' B sb (remarkS s (toks ts)).1 ts' ∧ Below B w w' := by
  have HS : ∀ o, Hid (SC (w.alloc o) B sb rest ts ∧ Below B w (w.alloc o)) := fun o => Lib.hid ⟨h.below ((Below.refl _ _).alloc (Nat.le_refl _) _), (Below.refl B w).alloc h.le _⟩
  have HP : ∀ (p : Bs) (w : World), Hid (Calls Tryz.prog 72 #[.string ⟨s.toArray⟩, .string ⟨p.toArray⟩] w fun en w' => en = .returned (.tuple #[.string ⟨(Lib.trimPrefix s p).toArray⟩, .bool (Lib.hasPrefix s p)]) ∧ w' = w) := fun p w => Lib.hid (Tryz.strings_CutPrefix _ _ _)
  have HCM : ∀ W, SC W B sb rest ts → Hid (Calls Tryz.prog 71 #[.pointer (some ⟨sb, 0, none⟩), .string ⟨s.toArray⟩, .string ⟨#[45, 45, 62]⟩] W fun en w' => en = .returned (.tuple #[]) ∧ ∃ ts', toks ts' = (commentS s [45, 45, 62] (toks ts)).2 ∧ SC w' B sb (commentS s [45, 45, 62] (toks ts)).1 ts' ∧ Below B W w') := fun W hW => Lib.hid (comment_any B sb rest ts s [45, 45, 62] W hW hlen hs)
  clear h
  unfold remarkS
  generalize commentS s [45, 45, 62] (toks ts) = cm at *
  have HP1 := HP [62]; have HP2 := HP [45, 62]
  clear HP
  generalize Lib.trimPrefix s [62] = r1 at *
  generalize Lib.trimPrefix s [45, 62] = r2 at *
  generalize hq1 : Lib.hasPrefix s [62] = q1 at *
  generalize hq2 : Lib.hasPrefix s [45, 62] = q2 at *
  clear hq1 hq2
  go_enter Tryz.func73, Tryz.ntmps73
  go_wp2_with fail
  have c0 : (w.alloc (.cells #[.string ⟨#[62]⟩, .string ⟨#[45, 62]⟩] 9)).cell? ⟨w.heap.size, 0, none⟩ = some (.string ⟨#[62]⟩) := by rw [Lib.cell_of_heap (heap_alloc_new w _)]; rfl
  have c1 : (w.alloc (.cells #[.string ⟨#[62]⟩, .string ⟨#[45, 62]⟩] 9)).cell? ⟨w.heap.size, 1, none⟩ = some (.string ⟨#[45, 62]⟩) := by rw [Lib.cell_of_heap (heap_alloc_new w _)]; rfl
  replace HS := HS (.cells #[.string ⟨#[62]⟩, .string ⟨#[45, 62]⟩] 9)
  generalize w.alloc (.cells #[.string ⟨#[62]⟩, .string ⟨#[45, 62]⟩] 9) = W at *
  generalize w.heap.size = g at *
  replace HCM := HCM W HS.out.1
  replace HP1 := HP1 W
  replace HP2 := HP2 W
  go_loopw [10] (fun k wr => ∃ i : Nat, i ≤ 2 ∧ k = .int .i64 i ∧ wr = W ∧ (1 ≤ i → q1 = false) ∧ (2 ≤ i → q2 = false))
    (fun i _ => 2 - (intOf i).toNat)
  case atStart => exact ⟨0, Nat.zero_le _, rfl, rfl, fun h => by omega, fun h => by omega⟩
  case round =>
    obtain ⟨i, hi, rfl, rfl, hk1, hk2⟩ := hrel
    have H1 := Lib.hid hk1
    have H2 := Lib.hid hk2
    clear hk1 hk2
    match i, hi with
    | 0, _ =>
      go_wp2_with fail
      refine (HP1.out).mono ?_
      rintro e1 w1 ⟨rfl, rfl⟩
      cases q1 with
      | true =>
        go_wp2_with fail
        refine (add_any B sb rest ts ⟨4, [], [], []⟩ (.slice none 0 0) _ HS.out.1.sc (RA.nil _ B) hlen HS.out.1.le).mono ?_
        rintro e2 w2 ⟨rfl, hs2, hb2⟩
        have HS2 := HS.out.1.next hs2 hb2
        have hc := HS2.c0
        have hf := HS2.f0
        have HF := Lib.hid (HS2.rest r1)
        clear hs2 HS2
        go_wp2_with fail
        refine bodyPost_ret (results_none rfl _ _ _) rfl ?_
        refine ⟨rfl, _, ?_, HF.out.1, (HS.out.2.trans hb2).trans HF.out.2⟩
        rw [toks_snoc]
      | false =>
        go_wp2_with fail
        go_roundw
        case rel => exact ⟨1, by omega, by go_num, by simp, by simp, by simp⟩
        case measure => simp [intOf]
    | 1, _ =>
      obtain rfl : q1 = false := H1.out (by omega)
      go_wp2_with fail
      refine (HP2.out).mono ?_
      rintro e1 w1 ⟨rfl, rfl⟩
      cases q2 with
      | true =>
        go_wp2_with fail
        refine (add_any B sb rest ts ⟨4, [], [], []⟩ (.slice none 0 0) _ HS.out.1.sc (RA.nil _ B) hlen HS.out.1.le).mono ?_
        rintro e2 w2 ⟨rfl, hs2, hb2⟩
        have HS2 := HS.out.1.next hs2 hb2
        have hc := HS2.c0
        have hf := HS2.f0
        have HF := Lib.hid (HS2.rest r2)
        clear hs2 HS2
        go_wp2_with fail
        refine bodyPost_ret (results_none rfl _ _ _) rfl ?_
        refine ⟨rfl, _, ?_, HF.out.1, (HS.out.2.trans hb2).trans HF.out.2⟩
        rw [toks_snoc]
      | false =>
        go_wp2_with fail
        go_roundw
        case rel => exact ⟨2, by omega, by go_num, by simp, by simp, by simp⟩
        case measure => simp [intOf]
    | 2, _ =>
      obtain rfl : q1 = false := H1.out (by omega)
      obtain rfl : q2 = false := H2.out (by omega)
      go_wp2_with fail
      refine (HCM.out).mono ?_
      rintro e2 w2 ⟨rfl, ts', h1, h2, h3⟩
      have HT := Lib.hid h1
      clear h1
      go_wp2_with fail
      go_end0
      exact ⟨rfl, ts', HT.out, h2, HS.out.2.trans h3⟩
end Go.Proofs.YtdmmeinkligmcaaGreatDoor
