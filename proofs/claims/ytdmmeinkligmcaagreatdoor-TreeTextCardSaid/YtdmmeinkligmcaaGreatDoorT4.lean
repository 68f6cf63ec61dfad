/- (*builder).chars. -/
import Derived.Test.YtdmmeinkligmcaaGreatDoorT3
set_option linter.unusedVariables false
set_option maxRecDepth 100000
set_option maxHeartbeats 2000000
namespace Go.Proofs.YtdmmeinkligmcaaGreatDoor
open Go.RowKit

/-- A part's text is written. -/
theorem BAt.text {w : World} {B bb : Nat} {opn : List Nat} {c : Nat} {rs : List Rec} {r : Rec} (h : BAt w B bb opn c (r :: rs)) (t : Bs) :
    BAt (w.setCell ⟨r.blk, 2, none⟩ (st t)) B bb opn c ({ r with text := t } :: rs) ∧ Far B w (w.setCell ⟨r.blk, 2, none⟩ (st t)) := by
  have hr := h.mem.each r (by simp)
  have hb := (Below.refl B w).setCell (p := ⟨r.blk, 2, none⟩) hr.lo (st t)
  obtain ⟨ov, h1, h2, h3⟩ := h.bld
  have old : ∀ k, k < w.heap.size → k ≠ r.blk → (w.setCell ⟨r.blk, 2, none⟩ (st t)).heap[k]? = w.heap[k]? := fun k _ hk => Below.heap_setCell _ _ _ k hk
  have hnd : r.blk ∉ rs.map (·.blk) ∧ (rs.map (·.blk)).Nodup := by have := h.mem.blks; simpa using this
  refine ⟨⟨⟨fun q hq => ?_, by simpa using hnd, by simpa using h.mem.rows⟩, h.gb.next hb, Nat.le_trans h.le hb.size, ⟨ov, ?_, own_other h2 hr.at_ (by decide) old, fun q hq => ?_⟩, h.lo⟩, hb, Kept.set hr.at_ (.inr (.inl rfl)) _⟩
  · rcases List.mem_cons.1 hq with rfl | hq
    · refine ⟨hr.lo, ?_, own_other hr.row hr.at_ (by decide) old, own_other hr.ra hr.at_ (by decide) old⟩
      show (w.setCell ⟨r.blk, 2, none⟩ (st t)).heap[r.blk]? = _
      rw [Lib.heap_setCell_same hr.at_]; rfl
    · have hq' := h.mem.each q (by simp [hq])
      have hne : q.blk ≠ r.blk := fun e => hnd.1 (by rw [← e]; exact List.mem_map.2 ⟨q, hq, rfl⟩)
      exact ⟨hq'.lo, by rw [old _ hq'.lt hne]; exact hq'.at_, own_other hq'.row hr.at_ (by decide) old, own_other hq'.ra hr.at_ (by decide) old⟩
  · rw [old _ (Array.getElem?_eq_some_iff.1 h1).1 (typ_ne h1 hr.at_ (by decide))]; exact h1
  · rcases List.mem_cons.1 hq with rfl | hq
    · exact h3 r (by simp)
    · exact h3 q (by simp [hq])
theorem BAt.c0 {w : World} {B bb : Nat} {opn : List Nat} {c : Nat} {rs : List Rec} {r0 : Rec} (h : BAt w B bb opn c (r0 :: rs)) : w.cell? ⟨r0.blk, 0, none⟩ = some (st r0.name) ∧ w.cell? ⟨r0.blk, 2, none⟩ = some (st r0.text) ∧ w.frozen? ⟨r0.blk, 2, none⟩ = false := by
  have h1 := (h.mem.each r0 (by simp)).at_
  exact ⟨by rw [Lib.cell_of_heap h1]; rfl, by rw [Lib.cell_of_heap h1]; rfl, Lib.frozen_of_heap h1 2⟩

theorem tchars_none (B bb b0 count : Nat) (os : List Nat) (r0 : Rec) (rs : List Rec) (t : Bs) (w : World) (Q : World → Prop) (h : BAt w B bb (os ++ [b0]) count (r0 :: rs)) (hb0 : r0.blk = b0) (hk : r0.kids = []) (hlen : os.length ≤ 100000)
    (HP : ∀ n, Calls Tryz.prog 48 #[.pointer (some ⟨bb, 0, none⟩), .agg #[st [], .slice none 0 0, st t, .slice none 0 0]] (w.drewN n) fun e w' => (∃ v, e = .returned v) ∧ Q w') :
    Calls Tryz.prog 26 #[.pointer (some ⟨bb, 0, none⟩), st t] w fun e w' => e = .returned (.tuple #[]) ∧ Q w' := by
  subst hb0
  have HH := Lib.hid h
  obtain ⟨A, c, hkv, -, -, -⟩ := own_form (h.mem.each r0 (by simp)).row
  have HP' := Lib.hid HP
  clear h HP
  rw [hk] at hkv
  unfold st at *
  go_enter Tryz.func26, Tryz.ntmps26
  go_wp2_with fail
  refine (inner_any B bb r0.blk count os _ w HH.out hlen).mono ?_
  rintro e1 w1 ⟨rfl, n, rfl⟩
  have hc4 := (HH.out.below (below_drewN (Below.refl _ _) n)).k4.1
  rw [hkv] at hc4
  clear hkv
  go_wp2_with fail
  refine (HP'.out n).mono ?_
  rintro e2 w2 ⟨⟨v, rfl⟩, hq⟩
  have HQ := Lib.hid hq
  clear hq
  go_wp2_with fail
  go_end0
  exact ⟨rfl, HQ.out⟩
theorem tchars_new (B bb b0 count : Nat) (os ks : List Nat) (r0 r1 : Rec) (rs : List Rec) (t : Bs) (w : World) (Q : World → Prop) (h : BAt w B bb (os ++ [b0]) count (r0 :: r1 :: rs)) (hb0 : r0.blk = b0) (hk : r0.kids = ks ++ [r1.blk]) (hn : r1.name ≠ []) (hlen : os.length ≤ 100000) (hkl : ks.length ≤ 100000)
    (HP : ∀ n, Calls Tryz.prog 48 #[.pointer (some ⟨bb, 0, none⟩), .agg #[st [], .slice none 0 0, st t, .slice none 0 0]] (w.drewN n) fun e w' => (∃ v, e = .returned v) ∧ Q w') :
    Calls Tryz.prog 26 #[.pointer (some ⟨bb, 0, none⟩), st t] w fun e w' => e = .returned (.tuple #[]) ∧ Q w' := by
  subst hb0
  have HH := Lib.hid h
  have hrow := (h.mem.each r0 (by simp)).row
  rw [hk] at hrow
  obtain ⟨g, c, hkv, hlc, hcm, -, -, hcell⟩ := row_cell hrow (by simp)
  have d1 := hcell ks.length r1.blk (by simp)
  have d0 := (h.perm (List.Perm.swap r1 r0 rs)).c0.1
  have HP' := Lib.hid HP
  have hw64 : wrap64 (ks.length : Int) = ks.length := IntWalk.wrap64_in _ (by omega)
  have hlk : (ks ++ [r1.blk]).length = ks.length + 1 := by simp
  rw [hlk] at hkv
  have hne : r1.name.isEmpty = false := by simpa using hn
  generalize hrb : r1.blk = b1 at *
  generalize hrn : r1.name = nm at *
  clear h HP hrow hcell hk hlc hcm hlk
  generalize ks.length = m at *
  clear hrb hrn
  unfold st at *
  go_enter Tryz.func26, Tryz.ntmps26
  go_wp2_with fail
  refine (inner_any B bb r0.blk count os _ w HH.out hlen).mono ?_
  rintro e1 w1 ⟨rfl, n, rfl⟩
  have hc4 := (HH.out.below (below_drewN (Below.refl _ _) n)).k4.1
  have d1' : (w.drewN n).cell? ⟨g, m, none⟩ = some (ptr b1) := d1
  have d0' : (w.drewN n).cell? ⟨b1, 0, none⟩ = some (.string ⟨nm.toArray⟩) := d0
  rw [hkv] at hc4
  clear hkv d1 d0
  go_wp2_with fail
  refine (HP'.out n).mono ?_
  rintro e2 w2 ⟨⟨v, rfl⟩, hq⟩
  have HQ := Lib.hid hq
  clear hq
  go_wp2_with fail
  go_end0
  exact ⟨rfl, HQ.out⟩
theorem tchars_join (B bb b0 count : Nat) (os ks : List Nat) (r0 r1 : Rec) (rs : List Rec) (t : Bs) (w : World) (h : BAt w B bb (os ++ [b0]) count (r0 :: r1 :: rs)) (hb0 : r0.blk = b0) (hk : r0.kids = ks ++ [r1.blk]) (hn : r1.name = []) (hlen : os.length ≤ 100000) (hkl : ks.length ≤ 100000) (hsum : r1.text.length + t.length ≤ 1000000000) :
    Calls Tryz.prog 26 #[.pointer (some ⟨bb, 0, none⟩), st t] w fun e w' => e = .returned (.tuple #[]) ∧ BAt w' B bb (os ++ [b0]) count (r0 :: { r1 with text := r1.text ++ t } :: rs) ∧ Far B w w' := by
  subst hb0
  have HH := Lib.hid h
  have hrow := (h.mem.each r0 (by simp)).row
  rw [hk] at hrow
  obtain ⟨g, c, hkv, hlc, hcm, -, -, hcell⟩ := row_cell hrow (by simp)
  have d1 := hcell ks.length r1.blk (by simp)
  obtain ⟨d0, d2, f2⟩ := (h.perm (List.Perm.swap r1 r0 rs)).c0
  have HT : Hid (∀ n, BAt ((w.drewN n).setCell ⟨r1.blk, 2, none⟩ (st (r1.text ++ t))) B bb (os ++ [r0.blk]) count (r0 :: { r1 with text := r1.text ++ t } :: rs) ∧ Far B w ((w.drewN n).setCell ⟨r1.blk, 2, none⟩ (st (r1.text ++ t)))) := Lib.hid (fun n => by
    have h1 := ((h.below (below_drewN (Below.refl _ _) n)).perm (List.Perm.swap r1 r0 rs)).text (r1.text ++ t)
    exact ⟨h1.1.perm (List.Perm.swap _ _ _), ((Far.refl B w).drewN n).trans h1.2⟩)
  have hw64 : wrap64 (ks.length : Int) = ks.length := IntWalk.wrap64_in _ (by omega)
  have hlk : (ks ++ [r1.blk]).length = ks.length + 1 := by simp
  rw [hlk] at hkv
  rw [hn] at d0
  have HSM := Lib.hid hsum
  clear h hrow hcell hk hlc hcm hlk hn hsum
  generalize ks.length = m at *
  have hpost : ∀ w', (BAt w' B bb (os ++ [r0.blk]) count (r0 :: { r1 with text := r1.text ++ t } :: rs) ∧ Far B w w') → (Ending.returned (Value.tuple #[]) = .returned (.tuple #[]) ∧ BAt w' B bb (os ++ [r0.blk]) count (r0 :: { r1 with text := r1.text ++ t } :: rs) ∧ Far B w w') := fun w' h => ⟨rfl, h⟩
  generalize hrb : r1.blk = b1 at *
  generalize hrt : r1.text = tx at *
  have HB1 := Lib.hid hrb
  have HT1 := Lib.hid hrt
  clear hrb hrt hpost
  unfold st at *
  go_enter Tryz.func26, Tryz.ntmps26
  go_wp2_with fail
  refine (inner_any B bb r0.blk count os _ w HH.out hlen).mono ?_
  rintro e1 w1 ⟨rfl, n, rfl⟩
  have hc4 := (HH.out.below (below_drewN (Below.refl _ _) n)).k4.1
  have d1' : (w.drewN n).cell? ⟨g, m, none⟩ = some (ptr b1) := d1
  have d0' : (w.drewN n).cell? ⟨b1, 0, none⟩ = some (.string ⟨#[]⟩) := d0
  have d2' : (w.drewN n).cell? ⟨b1, 2, none⟩ = some (.string ⟨tx.toArray⟩) := d2
  have f2' : (w.drewN n).frozen? ⟨b1, 2, none⟩ = false := f2
  rw [hkv] at hc4
  clear hkv d1 d0 d2 f2
  replace HT := Lib.hid (HT.out n)
  generalize w.drewN n = W at *
  go_wp2_with fail
  · exact absurd (by assumption) (by have := HSM.out; omega)
  · refine bodyPost_ret (results_none rfl _ _ _) rfl ?_
    rw [mk_app]
    exact ⟨rfl, HT.out⟩
end Go.Proofs.YtdmmeinkligmcaaGreatDoor
