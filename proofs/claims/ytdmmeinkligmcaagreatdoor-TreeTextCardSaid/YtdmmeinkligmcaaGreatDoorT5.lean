/- (*builder).shut. -/
import Derived.Test.YtdmmeinkligmcaaGreatDoorT4
set_option linter.unusedVariables false
set_option maxRecDepth 100000
set_option maxHeartbeats 2000000
namespace Go.Proofs.YtdmmeinkligmcaaGreatDoor
open Go.RowKit

def wallB (n : Bs) : Bool := isOne wallsL n
/-- Which open part is shut, looked for from index i on outward. -/
def shutI (so : Bs → Bool) (names : List Bs) : Nat → Option Nat
  | 0 => none
  | i + 1 => if so (names.getD (i + 1) []) then some (i + 1) else if wallB (names.getD (i + 1) []) then none else shutI so names i
/-- The open parts have these names. -/
def Named (opn : List Nat) (names : List Bs) (rs : List Rec) : Prop := names.length = opn.length ∧ ∀ i b, opn[i]? = some b → ∃ r, r ∈ rs ∧ r.blk = b ∧ r.name = names.getD i []
theorem row_take {w : World} {B : Nat} {g n c : Nat} {l : List Nat} (h : w.ownsRow B 39 1 (.slice (some ⟨g, 0, none⟩) l.length c) l.length (ptrs l)) (i : Nat) (hi : i ≤ l.length) : w.ownsRow B 39 1 (.slice (some ⟨g, 0, none⟩) i c) (l.take i).length (ptrs (l.take i)) := by
  have hlt : (l.take i).length = i := by simp; omega
  rw [hlt]
  obtain ⟨h1, h2⟩ := h
  refine ⟨by simp [ptrs]; omega, .inr ?_⟩
  rcases h2 with ⟨e, _⟩ | ⟨g', c', cur, e, a1, a2, a3, a4, a5, a6⟩
  · cases e
  · cases e
    refine ⟨g, c, cur, rfl, a1, a2, by omega, a4, a5, ?_⟩
    have : ptrs (l.take i) = (ptrs l).take i := by simp [ptrs, List.map_take]
    rw [this, ← a6, List.take_take]
    congr 1
    omega
theorem BAt.shut {w : World} {B bb : Nat} {opn : List Nat} {c : Nat} {rs : List Rec} (h : BAt w B bb opn c rs) {g cap : Nat} (hv : w.cell? ⟨bb, 0, none⟩ = some (.slice (some ⟨g, 0, none⟩) opn.length cap)) (i : Nat) (hi : i ≤ opn.length) :
    BAt (w.setCell ⟨bb, 0, none⟩ (.slice (some ⟨g, 0, none⟩) i cap)) B bb (opn.take i) c rs ∧ Far B w (w.setCell ⟨bb, 0, none⟩ (.slice (some ⟨g, 0, none⟩) i cap)) := by
  have hb := (Below.refl B w).setCell (p := ⟨bb, 0, none⟩) h.lo (.slice (some ⟨g, 0, none⟩) i cap)
  obtain ⟨ov, h1, h2, h3⟩ := h.bld
  rw [Lib.cell_of_heap h1] at hv
  have hv' : ov = .slice (some ⟨g, 0, none⟩) opn.length cap := by simpa using hv
  subst hv'
  have old : ∀ k, k < w.heap.size → k ≠ bb → (w.setCell ⟨bb, 0, none⟩ (.slice (some ⟨g, 0, none⟩) i cap)).heap[k]? = w.heap[k]? := fun k _ hk => Below.heap_setCell _ _ _ k hk
  refine ⟨⟨⟨fun r hr => ?_, h.mem.blks, h.mem.rows⟩, h.gb.next hb, Nat.le_trans h.le hb.size, ⟨.slice (some ⟨g, 0, none⟩) i cap, ?_, own_other (row_take (n := i) h2 i hi) h1 (by decide) old, fun r hr k hk => h3 r hr k (by simpa [Value.ownBlock] using hk)⟩, h.lo⟩, hb, Kept.set h1 (.inl rfl) _⟩
  · have hr' := h.mem.each r hr
    exact ⟨hr'.lo, by rw [old _ hr'.lt (typ_ne hr'.at_ h1 (by decide))]; exact hr'.at_, own_other hr'.row h1 (by decide) old, own_other hr'.ra h1 (by decide) old⟩
  · rw [Lib.heap_setCell_same h1]; rfl

def ShutPost (B bb : Nat) (opn : List Nat) (count : Nat) (rs : List Rec) (w : World) (res : Option Nat) (e : Ending) (w' : World) : Prop :=
  match res with
  | some i => e = .returned (.bool true) ∧ i < opn.length ∧ 0 < i ∧ BAt w' B bb (opn.take i) count rs ∧ Far B w w'
  | none => e = .returned (.bool false) ∧ w' = w
theorem shut_start (B bb count : Nat) (cp : Value) (so : Bs → Bool) (opn : List Nat) (names : List Bs) (rs : List Rec) (w : World) (h : BAt w B bb opn count rs) (hN : Named opn names rs) (hlen : opn.length ≤ 100000) (hpos : 0 < opn.length) (hnl : ∀ n, n ∈ names → n.length ≤ 100000000)
    (hso : ∀ n : Bs, n.length ≤ 100000000 → Calls Tryz.prog 49 #[st n, cp] w fun e w' => e = .returned (.bool (so n)) ∧ w' = w) :
    Calls Tryz.prog 28 #[.pointer (some ⟨bb, 0, none⟩), .func (.func 49) #[] #[cp]] w fun e w' =>
      ShutPost B bb opn count rs w (shutI so names (opn.length - 1)) e w' := by
  have HPOST : Hid (∀ res e w', (match res with
    | some i => e = .returned (.bool true) ∧ i < opn.length ∧ 0 < i ∧ BAt w' B bb (opn.take i) count rs ∧ Far B w w'
    | none => e = .returned (.bool false) ∧ w' = w) → ShutPost B bb opn count rs w res e w') := Lib.hid (fun _ _ _ h => h)
  show Calls _ _ _ _ (fun e w' => ShutPost B bb opn count rs w (shutI so names (opn.length - 1)) e w')
  obtain ⟨ov, h1, h2, h3⟩ := h.bld
  obtain ⟨g, c, rfl, hlc, hcm, -, -, hcell⟩ := row_cell h2 hpos
  have c0 : w.cell? ⟨bb, 0, none⟩ = some (.slice (some ⟨g, 0, none⟩) opn.length c) := by rw [Lib.cell_of_heap h1]; rfl
  have f0 : w.frozen? ⟨bb, 0, none⟩ = false := Lib.frozen_of_heap h1 0
  obtain ⟨m, hm⟩ := h.gb.glob.maxlen
  have HM' := Lib.hid hm
  have HSH := Lib.hid (fun i hi => h.shut c0 i hi)
  have HNM : Hid (∀ i, i < opn.length → ∃ b, w.cell? ⟨g, i, none⟩ = some (ptr b) ∧ w.cell? ⟨b, 0, none⟩ = some (st (names.getD i [])) ∧ (names.getD i []).length ≤ 100000000) := Lib.hid (fun i hi => by
    have hb : opn[i]? = some opn[i] := List.getElem?_eq_getElem hi
    obtain ⟨r, hr, e1, e2⟩ := hN.2 i _ hb
    refine ⟨opn[i], hcell i _ hb, ?_, ?_⟩
    · rw [← e1, Lib.cell_of_heap (h.mem.each r hr).at_, ← e2]; rfl
    · have : i < names.length := by rw [hN.1]; exact hi
      rw [List.getD_eq_getElem?_getD, List.getElem?_eq_getElem this]
      exact hnl _ (List.getElem_mem _))
  have HSO := Lib.hid hso
  have hgoal : Hid (shutI so names (opn.length - 1) = shutI so names (opn.length - 1)) := Lib.hid rfl
  clear h hN h1 h2 h3 hcell hm hso hnl
  generalize hN0 : opn.length = n at *
  obtain ⟨k, rfl⟩ : ∃ k, n = k + 1 := ⟨n - 1, by omega⟩
  have hw64 : wrap64 (k : Int) = k := IntWalk.wrap64_in _ (by omega)
  have hk1 : k + 1 - 1 = k := by omega
  rw [hk1] at hgoal ⊢
  generalize hres : shutI so names k = res at *
  have HRES := Lib.hid hres
  clear hgoal hres hk1
  go_enter Tryz.func28, Tryz.ntmps28
  go_wp2_with fail
  go_loopw [5] (fun v wr => ∃ j : Nat, j ≤ k ∧ v = .int .i64 j ∧ wr = w ∧ Hid (shutI so names j = res))
    (fun v _ => (intOf v).toNat)
  case atStart => exact ⟨k, Nat.le_refl _, rfl, rfl, HRES⟩
  case round =>
    obtain ⟨j, hj, rfl, rfl, hh⟩ := hrel
    match j, hj with
    | 0, _ =>
      go_wp2_with fail
      go_ret
      have hr := hh.out
      rw [shutI] at hr
      subst hr
      exact HPOST.out none _ _ ⟨rfl, rfl⟩
    | i + 1, hj =>
      obtain ⟨b, d1, d0, hnl⟩ := HNM.out (i + 1) (by omega)
      have hst := hh.out
      rw [shutI] at hst
      generalize names.getD (i + 1) [] = nm at *
      have HST := Lib.hid hst
      have hwi : wrap64 (i : Int) = i := IntWalk.wrap64_in _ (by omega)
      have hwi1 : wrap64 ((i : Int) + 1) = (i : Int) + 1 := IntWalk.wrap64_in _ (by omega)
      have HSO1 := Lib.hid (HSO.out nm hnl)
      clear hst
      unfold st at d0 HSO1
      go_wp2_with fail
      refine HSO1.out.mono ?_
      rintro e1 w1 ⟨rfl, rfl⟩
      cases hs : so nm with
      | true =>
        rw [hs] at HST
        have hr : res = some (i + 1) := by rw [← HST.out]; rfl
        subst hr
        have HX := HSH.out (i + 1) (by omega)
        have hX := Lib.hid HX
        clear hs HX HST hh HRES
        go_wp2_with fail
        go_ret
        exact HPOST.out (some (i + 1)) _ _ ⟨rfl, by omega, by omega, hX.out⟩
      | false =>
        rw [hs, if_neg (by simp)] at HST
        clear hs
        go_wp2_with fail
        have HWL : Hid (Calls Tryz.prog 37 #[.string ⟨wallsL.toArray⟩, .string ⟨nm.toArray⟩] w1 fun e w' => e = .returned (.bool (wallB nm)) ∧ w1 = w') := Lib.hid (is_any ⟨wallsL.toArray⟩ ⟨nm.toArray⟩ m w1 HM'.out (by rw [size_mk]; decide) (by rw [size_mk]; omega))
        refine HWL.out.mono ?_
        rintro e2 w2 ⟨rfl, rfl⟩
        cases hwl : wallB nm with
        | true =>
          rw [hwl] at HST
          have hr : res = none := by rw [← HST.out]; rfl
          subst hr
          clear hwl HST hh HRES
          go_wp2_with fail
          go_ret
          exact HPOST.out none _ _ ⟨rfl, rfl⟩
        | false =>
          rw [hwl, if_neg (by simp)] at HST
          clear hwl
          go_wp2_with fail
          go_roundw
          case rel => exact ⟨i, by omega, by go_num, trivial, HST⟩
          case measure => simp [intOf]
theorem shut_end (B bb count : Nat) (cp : Value) (so : Bs → Bool) (opn : List Nat) (names : List Bs) (rs : List Rec) (w : World) (h : BAt w B bb opn count rs) (hN : Named opn names rs) (hlen : opn.length ≤ 100000) (hpos : 0 < opn.length) (hnl : ∀ n, n ∈ names → n.length ≤ 100000000)
    (hso : ∀ n : Bs, n.length ≤ 100000000 → Calls Tryz.prog 29 #[st n, cp] w fun e w' => e = .returned (.bool (so n)) ∧ w' = w) :
    Calls Tryz.prog 28 #[.pointer (some ⟨bb, 0, none⟩), .func (.func 29) #[] #[cp]] w fun e w' =>
      ShutPost B bb opn count rs w (shutI so names (opn.length - 1)) e w' := by
  have HPOST : Hid (∀ res e w', (match res with
    | some i => e = .returned (.bool true) ∧ i < opn.length ∧ 0 < i ∧ BAt w' B bb (opn.take i) count rs ∧ Far B w w'
    | none => e = .returned (.bool false) ∧ w' = w) → ShutPost B bb opn count rs w res e w') := Lib.hid (fun _ _ _ h => h)
  show Calls _ _ _ _ (fun e w' => ShutPost B bb opn count rs w (shutI so names (opn.length - 1)) e w')
  obtain ⟨ov, h1, h2, h3⟩ := h.bld
  obtain ⟨g, c, rfl, hlc, hcm, -, -, hcell⟩ := row_cell h2 hpos
  have c0 : w.cell? ⟨bb, 0, none⟩ = some (.slice (some ⟨g, 0, none⟩) opn.length c) := by rw [Lib.cell_of_heap h1]; rfl
  have f0 : w.frozen? ⟨bb, 0, none⟩ = false := Lib.frozen_of_heap h1 0
  obtain ⟨m, hm⟩ := h.gb.glob.maxlen
  have HM' := Lib.hid hm
  have HSH := Lib.hid (fun i hi => h.shut c0 i hi)
  have HNM : Hid (∀ i, i < opn.length → ∃ b, w.cell? ⟨g, i, none⟩ = some (ptr b) ∧ w.cell? ⟨b, 0, none⟩ = some (st (names.getD i [])) ∧ (names.getD i []).length ≤ 100000000) := Lib.hid (fun i hi => by
    have hb : opn[i]? = some opn[i] := List.getElem?_eq_getElem hi
    obtain ⟨r, hr, e1, e2⟩ := hN.2 i _ hb
    refine ⟨opn[i], hcell i _ hb, ?_, ?_⟩
    · rw [← e1, Lib.cell_of_heap (h.mem.each r hr).at_, ← e2]; rfl
    · have : i < names.length := by rw [hN.1]; exact hi
      rw [List.getD_eq_getElem?_getD, List.getElem?_eq_getElem this]
      exact hnl _ (List.getElem_mem _))
  have HSO := Lib.hid hso
  have hgoal : Hid (shutI so names (opn.length - 1) = shutI so names (opn.length - 1)) := Lib.hid rfl
  clear h hN h1 h2 h3 hcell hm hso hnl
  generalize hN0 : opn.length = n at *
  obtain ⟨k, rfl⟩ : ∃ k, n = k + 1 := ⟨n - 1, by omega⟩
  have hw64 : wrap64 (k : Int) = k := IntWalk.wrap64_in _ (by omega)
  have hk1 : k + 1 - 1 = k := by omega
  rw [hk1] at hgoal ⊢
  generalize hres : shutI so names k = res at *
  have HRES := Lib.hid hres
  clear hgoal hres hk1
  go_enter Tryz.func28, Tryz.ntmps28
  go_wp2_with fail
  go_loopw [5] (fun v wr => ∃ j : Nat, j ≤ k ∧ v = .int .i64 j ∧ wr = w ∧ Hid (shutI so names j = res))
    (fun v _ => (intOf v).toNat)
  case atStart => exact ⟨k, Nat.le_refl _, rfl, rfl, HRES⟩
  case round =>
    obtain ⟨j, hj, rfl, rfl, hh⟩ := hrel
    match j, hj with
    | 0, _ =>
      go_wp2_with fail
      go_ret
      have hr := hh.out
      rw [shutI] at hr
      subst hr
      exact HPOST.out none _ _ ⟨rfl, rfl⟩
    | i + 1, hj =>
      obtain ⟨b, d1, d0, hnl⟩ := HNM.out (i + 1) (by omega)
      have hst := hh.out
      rw [shutI] at hst
      generalize names.getD (i + 1) [] = nm at *
      have HST := Lib.hid hst
      have hwi : wrap64 (i : Int) = i := IntWalk.wrap64_in _ (by omega)
      have hwi1 : wrap64 ((i : Int) + 1) = (i : Int) + 1 := IntWalk.wrap64_in _ (by omega)
      have HSO1 := Lib.hid (HSO.out nm hnl)
      clear hst
      unfold st at d0 HSO1
      go_wp2_with fail
      refine HSO1.out.mono ?_
      rintro e1 w1 ⟨rfl, rfl⟩
      cases hs : so nm with
      | true =>
        rw [hs] at HST
        have hr : res = some (i + 1) := by rw [← HST.out]; rfl
        subst hr
        have HX := HSH.out (i + 1) (by omega)
        have hX := Lib.hid HX
        clear hs HX HST hh HRES
        go_wp2_with fail
        go_ret
        exact HPOST.out (some (i + 1)) _ _ ⟨rfl, by omega, by omega, hX.out⟩
      | false =>
        rw [hs, if_neg (by simp)] at HST
        clear hs
        go_wp2_with fail
        have HWL : Hid (Calls Tryz.prog 37 #[.string ⟨wallsL.toArray⟩, .string ⟨nm.toArray⟩] w1 fun e w' => e = .returned (.bool (wallB nm)) ∧ w1 = w') := Lib.hid (is_any ⟨wallsL.toArray⟩ ⟨nm.toArray⟩ m w1 HM'.out (by rw [size_mk]; decide) (by rw [size_mk]; omega))
        refine HWL.out.mono ?_
        rintro e2 w2 ⟨rfl, rfl⟩
        cases hwl : wallB nm with
        | true =>
          rw [hwl] at HST
          have hr : res = none := by rw [← HST.out]; rfl
          subst hr
          clear hwl HST hh HRES
          go_wp2_with fail
          go_ret
          exact HPOST.out none _ _ ⟨rfl, rfl⟩
        | false =>
          rw [hwl, if_neg (by simp)] at HST
          clear hwl
          go_wp2_with fail
          go_roundw
          case rel => exact ⟨i, by omega, by go_num, trivial, HST⟩
          case measure => simp [intOf]
end Go.Proofs.YtdmmeinkligmcaaGreatDoor
