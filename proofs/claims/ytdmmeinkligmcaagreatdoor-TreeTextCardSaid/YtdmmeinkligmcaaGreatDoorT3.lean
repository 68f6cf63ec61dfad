/- (*builder).put: the walk. -/
import Derived.Test.YtdmmeinkligmcaaGreatDoorT2
set_option linter.unusedVariables false
set_option maxRecDepth 100000
set_option maxHeartbeats 2000000
namespace Go.Proofs.YtdmmeinkligmcaaGreatDoor
open Go.RowKit

theorem pp_info : (Tryz.prog.info? 39).map (fun i => (i.zero, i.size, i.bytes)) = some (some (.pointer none), 1, 8) := by kernel_rfl
/-- The builder's count and the innermost open part, as the walks read them. -/
theorem BAt.c1 {w : World} {B bb : Nat} {opn : List Nat} {c : Nat} {rs : List Rec} (h : BAt w B bb opn c rs) : w.cell? ⟨bb, 1, none⟩ = some (.int .i64 c) ∧ w.frozen? ⟨bb, 1, none⟩ = false := by
  obtain ⟨ov, h1, _⟩ := h.bld
  exact ⟨by rw [Lib.cell_of_heap h1]; rfl, Lib.frozen_of_heap h1 1⟩
theorem BAt.k4 {w : World} {B bb : Nat} {opn : List Nat} {c : Nat} {rs : List Rec} {r0 : Rec} (h : BAt w B bb opn c (r0 :: rs)) : w.cell? ⟨r0.blk, 4, none⟩ = some r0.kv ∧ w.frozen? ⟨r0.blk, 4, none⟩ = false := by
  have h1 := (h.mem.each r0 (by simp)).at_
  exact ⟨by rw [Lib.cell_of_heap h1]; rfl, Lib.frozen_of_heap h1 4⟩

theorem put_full (B bb : Nat) (opn : List Nat) (rs : List Rec) (name : Bs) (attrs : List At) (av : Value) (text : Bs) (w : World) (h : BAt w B bb opn 5000 rs) (ha : RA w B av attrs) :
    Calls Tryz.prog 48 #[.pointer (some ⟨bb, 0, none⟩), .agg #[st name, av, st text, .slice none 0 0]] w fun e w' => e = .returned (.pointer none) ∧ BAt w' B bb opn 5000 rs ∧ Far B w w' := by
  obtain ⟨A, cp, rfl⟩ := ha.one
  have hc := h.c1
  have HB := fun o => Lib.hid (And.intro (h.below ((Below.refl _ w).alloc (Nat.le_refl _) o)) ((Far.refl B w).alloc h.le o))
  obtain ⟨hc1, hf1⟩ := hc
  have HC := fun o => (HB o).out.1.c1.1
  clear h ha
  unfold st
  go_enter Tryz.func48, Tryz.ntmps48
  go_wp2_with fail
  refine bodyPost_ret (results_tmp rfl _ _ _) rfl ?_
  exact ⟨rfl, (HB _).out⟩
theorem put_any (B bb b0 count : Nat) (os : List Nat) (r0 : Rec) (rs : List Rec) (name : Bs) (attrs : List At) (av : Value) (text : Bs) (w : World) (h : BAt w B bb (os ++ [b0]) count (r0 :: rs)) (hb0 : r0.blk = b0) (ha : RA w B av attrs) (hc5 : count < 5000) (hlen : os.length ≤ 100000) (hkl : r0.kids.length ≤ 100000) :
    Calls Tryz.prog 48 #[.pointer (some ⟨bb, 0, none⟩), .agg #[st name, av, st text, .slice none 0 0]] w fun e w' => ∃ nb kv', e = .returned (ptr nb) ∧ BAt w' B bb (os ++ [b0]) (count + 1) ({ r0 with kv := kv', kids := r0.kids ++ [nb] } :: ⟨nb, name, attrs, av, text, .slice none 0 0, []⟩ :: rs) ∧ Far B w w' := by
  subst hb0
  obtain ⟨i0, hi, hz0, hz1, hz2⟩ := info_parts pp_info
  obtain ⟨A, cp, rfl⟩ := ha.one
  have hc := h.c1
  obtain ⟨hc1, hf1⟩ := hc
  have hlt : bb < w.heap.size := block_lt hc1
  have HB := fun o => Lib.hid (And.intro (h.below ((Below.refl _ w).alloc (Nat.le_refl _) o)) ((Far.refl B w).alloc h.le o))
  have HC := fun o => (HB o).out.1.c1.1
  have HF := fun o => (HB o).out.1.c1.2
  have HA := Lib.hid ha
  have HH := Lib.hid h
  clear h ha
  unfold st
  go_enter Tryz.func48, Tryz.ntmps48
  go_wp2_with fail
  have hcnt : ((count + 1 : Nat) : Int) = (count : Int) + 1 := by omega
  have K1 := HH.out.count (count + 1)
  rw [hcnt] at K1
  have hA1 : RA (w.setCell ⟨bb, 1, none⟩ (.int .i64 ((count : Int) + 1))) B (.slice A attrs.length cp) attrs := by
    obtain ⟨ov, h1, _⟩ := HH.out.bld
    exact own_other HA.out h1 (by decide) (fun k _ hk => Below.heap_setCell _ _ _ k hk)
  have hs1 : (w.setCell ⟨bb, 1, none⟩ (.int .i64 ((count : Int) + 1))).heap.size = w.heap.size := by simp
  generalize w.setCell ⟨bb, 1, none⟩ (.int .i64 ((count : Int) + 1)) = W0 at *
  have K2 : ∀ o, BAt (W0.alloc o) B bb (os ++ [r0.blk]) (count + 1) (r0 :: rs) ∧ Far B w (W0.alloc o) ∧ RA (W0.alloc o) B (.slice A attrs.length cp) attrs ∧ (W0.alloc o).heap.size = w.heap.size + 1 := fun o => by
    have hb := (Below.refl W0.heap.size W0).alloc (Nat.le_refl _) o
    exact ⟨K1.1.below hb, K1.2.trans (Far.mono hb K1.1.le), hA1.below hb, by simp [hs1]⟩
  replace K2 := K2 (.cells #[.string ⟨name.toArray⟩, .slice A attrs.length cp, .string ⟨text.toArray⟩, .slice none 0 0] 33)
  generalize W0.alloc (.cells #[.string ⟨name.toArray⟩, .slice A attrs.length cp, .string ⟨text.toArray⟩, .slice none 0 0] 33) = W1 at *
  have K3 := K2.1.make name attrs (.slice A attrs.length cp) text K2.2.2.1
  have K3b : Far B w (W1.alloc (.cells #[st name, .slice A attrs.length cp, st text, .slice none 0 0, .slice none 0 0] 42)) := K2.2.1.alloc K2.1.le _
  unfold st at K3 K3b
  rw [K2.2.2.2] at K3
  have hs2 : (W1.alloc (.cells #[.string ⟨name.toArray⟩, .slice A attrs.length cp, .string ⟨text.toArray⟩, .slice none 0 0, .slice none 0 0] 42)).heap.size = w.heap.size + 2 := by simp [K2.2.2.2]
  generalize W1.alloc (.cells #[.string ⟨name.toArray⟩, .slice A attrs.length cp, .string ⟨text.toArray⟩, .slice none 0 0, .slice none 0 0] 42) = W2 at *
  replace K3 := K3.perm (List.Perm.swap _ _ _)
  have HK := Lib.hid K3
  have HKB := Lib.hid K3b
  clear K1 hA1 K2 K3 K3b HB HC HF hc1 hf1 hs1
  refine (inner_any B bb r0.blk (count + 1) os _ W2 HK.out hlen).mono ?_
  rintro e3 w3 ⟨rfl, n3, rfl⟩
  have HK3 := Lib.hid (HK.out.below (below_drewN (Below.refl _ _) n3))
  go_wp2_with fail
  refine (inner_any B bb r0.blk (count + 1) os _ _ HK3.out hlen).mono ?_
  rintro e4 w4 ⟨rfl, n4, hw4⟩
  have HK4 := HK3.out.below (below_drewN (Below.refl _ _) n4)
  have HKB4 := (HKB.out.drewN n3).drewN n4
  have hs4 : ((W2.drewN n3).drewN n4).heap.size = w.heap.size + 2 := hs2
  rw [← hw4] at HK4 HKB4 hs4
  obtain ⟨hc4, hf4⟩ := HK4.k4
  have HKH := Lib.hid HK4
  have HKB5 := Lib.hid HKB4
  have hrow5 := ((HK4.mem.each r0 (by simp)).row).alloc (.cells #[.pointer (some ⟨w.heap.size + 1, 0, none⟩)] 39)
  have hsz5 : (w4.alloc (.cells #[.pointer (some ⟨w.heap.size + 1, 0, none⟩)] 39)).heap.size = w.heap.size + 3 := by simp [hs4]
  have hnew5 : (w4.alloc (.cells #[.pointer (some ⟨w.heap.size + 1, 0, none⟩)] 39)).heap[w4.heap.size]? = some (.cells #[.pointer (some ⟨w.heap.size + 1, 0, none⟩)] 39) := heap_alloc_new w4 _
  rw [hs4] at hnew5
  have HROW := Lib.hid hrow5
  have HNEW := Lib.hid hnew5
  have HBE := Lib.hid (HK4.le)
  have hB5 : B ≤ w.heap.size + 3 := by have := HK4.le; omega
  have F1 : ∀ (w1 : World), (w4.alloc (.cells #[.pointer (some ⟨w.heap.size + 1, 0, none⟩)] 39)).grownBy w1 r0.kv.ownBlock → w1.cell? ⟨r0.blk, 4, none⟩ = some r0.kv ∧ w1.frozen? ⟨r0.blk, 4, none⟩ = false := fun w1 hg => by
    have hr0 := HK4.mem.each r0 (by simp)
    have hl := hr0.lt
    have h1 : w1.heap[r0.blk]? = some (.cells r0.cells 42 (0, 0)) := by
      rw [hg.block _ (by simp; omega) (fun e => own_ne hr0.row hr0.at_ (by decide) e.symm), heap_alloc_old _ _ hl]; exact hr0.at_
    exact ⟨by rw [Lib.cell_of_heap h1]; rfl, Lib.frozen_of_heap h1 4⟩
  have HF1 := Lib.hid F1
  clear hw4 HK4 HKB4 HK3 HK hs2 hrow5 hnew5 F1
  go_wp2_with (at_builtin; refine wpList_append_lies _ rfl _ _ 40 rfl B 39 i0 (.pointer none) 1 8 Tryz.underlying40 hi hz0 hz1 hz2 rfl (by decide) r0.kv r0.kids.length (ptrs r0.kids) rfl HROW.out ⟨w.heap.size + 2, 0, none⟩ 1 1 [.pointer (some ⟨w.heap.size + 1, 0, none⟩)] ?ca ?cb (World.news_of_block (cs := #[.pointer (some ⟨w.heap.size + 1, 0, none⟩)]) (t := 39) (fr := (0, 0)) HNEW.out) ?cc (by decide) ?cd ?ce ?cf (w.heap.size + 3) ?cg ?_)
  case ca => simp [Act.eval]
  case cb => rfl
  case cc => intro u hu; simp at hu; subst hu; rfl
  case cd => unfold maxLen; omega
  case ce => omega
  case cf => rw [hsz5]; exact hB5
  case cg => exact hsz5
  intro gg cap w6 hown6 hgrow hat hlt6
  have hst := HF1.out w6 hgrow
  obtain ⟨hce, hfe⟩ := hst
  have HX := Lib.hid (And.intro hown6 (And.intro hgrow hat))
  clear hown6 hgrow hat
  go_wp2_with fail
  refine bodyPost_ret (results_tmp rfl _ _ _) rfl ?_
  have hb5 := (Below.refl w4.heap.size w4).alloc (Nat.le_refl _) (.cells #[.pointer (some ⟨w.heap.size + 1, 0, none⟩)] 39)
  have hB5' := HKH.out.below hb5
  have hfin := hB5'.kid HX.out.1 HX.out.2.1 (by rw [hsz5]; exact HX.out.2.2)
  exact ⟨w.heap.size + 1, _, rfl, hfin.1, (HKB5.out.trans (Far.mono hb5 HBE.out)).trans hfin.2⟩
end Go.Proofs.YtdmmeinkligmcaaGreatDoor
