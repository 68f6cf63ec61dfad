/- tree.made. -/
import Derived.Test.YtdmmeinkligmcaaGreatDoorT8
set_option linter.unusedVariables false
set_option maxRecDepth 100000
set_option maxHeartbeats 2000000
namespace Go.Proofs.YtdmmeinkligmcaaGreatDoor
open Go.RowKit

theorem fr_sub {ks : List Nd} {bs : List Nat} {sub : List Rec} (h : FR ks bs sub) : bs.length ≤ sub.length := by
  refine FR.rec (motive_1 := fun _ _ s _ => 1 ≤ s.length) (motive_2 := fun ks bs s _ => bs.length ≤ s.length) ?_ ?_ ?_ h
  · intros; simp
  · simp
  · intro k ks b bs s1 s2 _ _ h1 h2; simp; omega
theorem nd_info : (Tryz.prog.info? 33).map (fun i => (i.zero, i.size, i.bytes)) = some (some (.agg #[.string ⟨#[]⟩, .slice none 0 0, .string ⟨#[]⟩, .slice none 0 0]), 4, 80) := by kernel_rfl
theorem made_rec {w w' : World} {B : Nat} {s : List Rec} {r : Rec} (hm : Made s w w') (hs : ∀ q, q ∈ s → RecIn w B q) (hr : RecIn w B r) (hn : r.blk ∉ s.map (·.blk)) : RecIn w' B r := by
  have typ : ∀ k cs t, w.heap[k]? = some (.cells cs t (0, 0)) → t ≠ 42 → k ∉ s.map (·.blk) := fun k cs t hk ht hm => by
    obtain ⟨q, hq, e⟩ := List.mem_map.1 hm
    have := (hs q hq).at_
    rw [show q.blk = k from e, hk] at this
    simp at this; exact ht this.2
  refine hr.kept (hm.block _ hr.lt hn) (fun k hk => ?_) (fun k hk => ?_)
  · obtain ⟨cs, hc⟩ := own_type hr.row k hk
    exact hm.block k (own_lt hr.row k hk).2 (typ _ _ _ hc (by decide))
  · obtain ⟨cs, hc⟩ := own_type hr.ra k hk
    exact hm.block k (own_lt hr.ra k hk).2 (typ _ _ _ hc (by decide))
/-- What stands between two rounds of made. -/
structure MadeInv (B : Nat) (w : World) (ks : List Nd) (bs : List Nat) (sub : List Rec) (wr : World) (i : Nat) (out : Value) : Prop where
  ex : ∃ ks1 ks2 bs1 bs2 s1 s2 cs, ks = ks1 ++ ks2 ∧ bs = bs1 ++ bs2 ∧ sub = s1 ++ s2 ∧ ks1.length = i ∧ bs1.length = i ∧ FR ks2 bs2 s2 ∧ Made s1 w wr ∧ wr.ownsRow B 33 4 out i cs ∧ (∀ k, out.ownBlock = some k → w.heap.size ≤ k) ∧ NCells wr B (fun k => w.heap.size ≤ k ∧ k < wr.heap.size ∧ out.ownBlock ≠ some k) ks1 cs

theorem made_any (N : Nat) : ∀ (B : Nat) (ks : List Nd) (bs : List Nat) (sub : List Rec) (v : Value) (w : World), sub.length < N → FR ks bs sub → (∀ r, r ∈ sub → RecIn w B r) → (sub.map (·.blk)).Nodup → w.ownsRow B 39 1 v bs.length (ptrs bs) → B ≤ w.heap.size → bs.length ≤ 100000 → (∀ r, r ∈ sub → r.kids.length ≤ 100000) →
    Calls Tryz.prog 30 #[v] w fun e w' => ∃ nv, e = .returned nv ∧ NRow w' B (fun k => w.heap.size ≤ k ∧ k < w'.heap.size) nv ks ∧ Made sub w w' := by
  induction N with
  | zero =>
    intro B ks bs sub v w hsub
    omega
  | succ N ih =>
    intro B ks bs sub v w hsub hfr hrec hnd hrow hB hbl hkl
    have HKL := Lib.hid hkl
    clear hkl
    obtain ⟨i0, hi, hz0, hz1, hz2⟩ := info_parts nd_info
    have H0 : Hid (MadeInv B w ks bs sub w 0 (.slice none 0 0)) := Lib.hid ⟨⟨[], ks, [], bs, [], sub, [], rfl, rfl, rfl, rfl, rfl, hfr, Made.refl _ _, ⟨rfl, .inl ⟨rfl, rfl⟩⟩, by simp [Value.ownBlock], .nil⟩⟩
    obtain ⟨A, c, rfl, hlc, hcm, hcell⟩ := own_form hrow
    have HROW := Lib.hid hrow
    have HREC := Lib.hid hrec
    have HND := Lib.hid hnd
    have HFR := Lib.hid hfr
    have IH := Lib.hid ih
    have HC := Lib.hid hcell
    have HSUB := Lib.hid hsub
    clear hrow hrec hnd hfr ih hcell hsub
    go_enter Tryz.func30, Tryz.ntmps30
    go_wp2_with fail
    go_loopw [3, 8] (fun vo vi wr => ∃ (i : Nat) (out : Value), out = vo ∧ i ≤ bs.length ∧ vi = .int .i64 i ∧ Hid (MadeInv B w ks bs sub wr i out))
      (fun _ vi _ => bs.length - (intOf vi).toNat)
    case atStart => exact ⟨0, _, rfl, Nat.zero_le _, rfl, H0⟩
    case round =>
      obtain ⟨i, out, hvo, hile, rfl, hinv⟩ := hrel
      subst hvo
      obtain ⟨ks1, ks2, bs1, bs2, s1, s2, cs, e1, e2, e3, e4, e5, hfr2, hmade, hown, hob, hcells⟩ := hinv.out.ex
      have typ : ∀ (s : List Rec), (∀ q, q ∈ s → RecIn w B q) → ∀ (k : Nat) (cs : Array Value) (t : TypeId), w.heap[k]? = some (.cells cs t (0, 0)) → t ≠ 42 → k ∉ s.map (·.blk) := fun s hs k cs t hk ht hm => by
        obtain ⟨q, hq, e⟩ := List.mem_map.1 hm
        have := (hs q hq).at_
        rw [show q.blk = k from e, hk] at this
        simp at this; exact ht this.2
      by_cases hlt : i < bs.length
      · cases hfr2 with
        | nil => subst e2; simp at hlt; omega
        | cons k ks2 b bs2 t1 s2 htr hfr3 =>
          cases htr with
          | mk name attrs text kids b av kv bs' sub1 hfr4 =>
            have hall := HREC.out
            rw [e3] at hall
            have hr : RecIn w B ⟨b, name, attrs, av, text, kv, bs'⟩ := hall _ (by simp)
            have hnd := HND.out
            rw [e3] at hnd
            have hkl := HKL.out
            rw [e3] at hkl
            simp only [List.map_append, List.map_cons, List.cons_append, List.nodup_append, List.nodup_cons, List.mem_append, List.mem_cons, List.mem_map] at hnd
            have hs1 : ∀ q, q ∈ s1 → RecIn w B q := fun q hq => hall q (by simp [hq])
            have hb1 : b ∉ s1.map (·.blk) := fun hm => by
              obtain ⟨q, hq, e⟩ := List.mem_map.1 hm
              exact hnd.2.2 q.blk ⟨q, hq, rfl⟩ b (.inl rfl) e
            have hb2 : b ∉ sub1.map (·.blk) := fun hm => by
              obtain ⟨q, hq, e⟩ := List.mem_map.1 hm
              exact hnd.2.1.1 (.inl ⟨q, hq, e⟩)
            have hrw : RecIn wr B ⟨b, name, attrs, av, text, kv, bs'⟩ := made_rec hmade hs1 hr hb1
            have hsubr : ∀ q, q ∈ sub1 → RecIn wr B q := fun q hq => made_rec hmade hs1 (hall q (by simp [hq])) (fun hm => by
              obtain ⟨q', hq', e⟩ := List.mem_map.1 hm
              exact hnd.2.2 q'.blk ⟨q', hq', rfl⟩ q.blk (.inr (.inl ⟨q, hq, rfl⟩)) e)
            have hnd1 : (sub1.map (·.blk)).Nodup := hnd.2.1.2.1
            have hcall := IH.out B kids bs' sub1 kv wr (by have := HSUB.out; rw [e3] at this; simp at this; omega) hfr4 hsubr hnd1 hrw.row (Nat.le_trans hB hmade.size) (hkl ⟨b, name, attrs, av, text, kv, bs'⟩ (by simp)) (fun q hq => hkl q (by simp [hq]))
            have HCALL := Lib.hid hcall
            obtain ⟨g, rfl, -, hgs, hgc⟩ := HC.out (by omega)
            have hgi := hgc i (ptr b) (by rw [e2]; simp [ptrs, ← e5])
            have hgk : wr.heap[g]? = w.heap[g]? := by
              obtain ⟨cs', hc'⟩ := own_type HROW.out g (by simp [Value.ownBlock])
              exact hmade.block g hgs (typ s1 hs1 g _ _ hc' (by decide))
            have p1 : wr.cell? ⟨g, i, none⟩ = some (ptr b) := by rw [World.cell?_of_block (a := ⟨g, i, none⟩) hgk]; exact hgi
            have p4 : wr.cell? ⟨b, 4, none⟩ = some kv := by rw [Lib.cell_of_heap hrw.at_]; rfl
            obtain ⟨Aa, ca, hav, -, -, -⟩ := own_form hrw.ra
            have HRW := Lib.hid hrw
            have HMADE := Lib.hid hmade
            have HOWN := Lib.hid hown
            have HCELLS := Lib.hid hcells
            have HOB := Lib.hid hob
            have HALL := Lib.hid hall
            have HNDX := Lib.hid (And.intro hb1 hb2)
            have HFR3 := Lib.hid hfr3
            have HSR := Lib.hid hsubr
            have HTY := Lib.hid typ
            have HE := Lib.hid (And.intro e4 e5)
            have HEE := Lib.hid (And.intro e1 (And.intro e2 e3))
            clear hrw hmade hown hcells hob hall hb1 hb2 hfr3 hfr4 hsubr typ hcall hgc hgk hgi hr hnd hs1 hnd1 hkl hinv e1 e2 e3 e4 e5 H0
            go_wp2_with fail
            refine HCALL.out.mono ?_
            rintro e2' w2 ⟨nv, rfl, hnr, hm2⟩
            have hbw2 : w2.heap[b]? = some (.cells #[st name, av, st text, .slice none 0 0, kv] 42 (0, 0)) := by rw [hm2.block b HRW.out.lt HNDX.out.2]; exact HRW.out.at_
            have q0 : w2.cell? ⟨b, 0, none⟩ = some (.string ⟨name.toArray⟩) := by rw [Lib.cell_of_heap hbw2]; rfl
            have q1 : w2.cell? ⟨b, 1, none⟩ = some av := by rw [Lib.cell_of_heap hbw2]; rfl
            have q2 : w2.cell? ⟨b, 2, none⟩ = some (.string ⟨text.toArray⟩) := by rw [Lib.cell_of_heap hbw2]; rfl
            have q3 : w2.cell? ⟨b, 3, none⟩ = some (.slice none 0 0) := by rw [Lib.cell_of_heap hbw2]; rfl
            have f3 : w2.frozen? ⟨b, 3, none⟩ = false := Lib.frozen_of_heap hbw2 3
            obtain ⟨An, nn, cn, hnv⟩ : ∃ An nn cn, nv = .slice An nn cn := by
              cases hnr with | mk _ _ cs' h1 _ _ => obtain ⟨An, cn, e, _⟩ := own_form h1; exact ⟨An, _, cn, e⟩
            subst hnv
            subst hav
            have HNR := Lib.hid hnr
            have HM2 := Lib.hid hm2
            have HB2 := Lib.hid hbw2
            clear hnr hm2 hbw2
            have hout2 : w2.ownsRow B 33 4 out i cs := own_kept HOWN.out (fun k hk => by
              obtain ⟨cs', hc⟩ := own_type HOWN.out k hk
              refine HM2.out.block k (own_lt HOWN.out k hk).2 (fun hm => ?_)
              obtain ⟨q, hq, e⟩ := List.mem_map.1 hm
              have := (HSR.out q hq).at_
              rw [show q.blk = k from e, hc] at this
              simp at this)
            have hbl4 : ∀ k, k < w2.heap.size → k ≠ b → ((w2.setCell ⟨b, 3, none⟩ (.slice An nn cn)).alloc (.cells #[.string ⟨name.toArray⟩, .slice Aa attrs.length ca, .string ⟨text.toArray⟩, .slice An nn cn] 33)).heap[k]? = w2.heap[k]? := fun k hk hkb => by
              rw [heap_alloc_old _ _ (by simp; exact hk), Below.heap_setCell _ _ _ k hkb]
            have hfacts : Below 0 w2 ((w2.setCell ⟨b, 3, none⟩ (.slice An nn cn)).alloc (.cells #[.string ⟨name.toArray⟩, .slice Aa attrs.length ca, .string ⟨text.toArray⟩, .slice An nn cn] 33)) := ((Below.refl 0 w2).setCell (p := ⟨b, 3, none⟩) (Nat.zero_le _) _).alloc (Nat.zero_le _) _
            have hsz4 : ((w2.setCell ⟨b, 3, none⟩ (.slice An nn cn)).alloc (.cells #[.string ⟨name.toArray⟩, .slice Aa attrs.length ca, .string ⟨text.toArray⟩, .slice An nn cn] 33)).heap.size = w2.heap.size + 1 := by simp
            have hnew4 : ((w2.setCell ⟨b, 3, none⟩ (.slice An nn cn)).alloc (.cells #[.string ⟨name.toArray⟩, .slice Aa attrs.length ca, .string ⟨text.toArray⟩, .slice An nn cn] 33)).heap[w2.heap.size]? = some (.cells #[.string ⟨name.toArray⟩, .slice Aa attrs.length ca, .string ⟨text.toArray⟩, .slice An nn cn] 33 (0, 0)) := by
              have := heap_alloc_new (w2.setCell ⟨b, 3, none⟩ (.slice An nn cn)) (.cells #[.string ⟨name.toArray⟩, .slice Aa attrs.length ca, .string ⟨text.toArray⟩, .slice An nn cn] 33)
              rw [show (w2.setCell ⟨b, 3, none⟩ (.slice An nn cn)).heap.size = w2.heap.size by simp] at this
              exact this
            have hout4 := own_kept (w' := ((w2.setCell ⟨b, 3, none⟩ (.slice An nn cn)).alloc (.cells #[.string ⟨name.toArray⟩, .slice Aa attrs.length ca, .string ⟨text.toArray⟩, .slice An nn cn] 33))) hout2 (fun k hk => by
              obtain ⟨cs', hc⟩ := own_type hout2 k hk
              exact hbl4 k (own_lt hout2 k hk).2 (typ_ne hc HB2.out (by decide)))
            have HOUT2 := Lib.hid hout2
            have HBL4 := Lib.hid hbl4
            have HFACTS := Lib.hid hfacts
            have HSZ4 := Lib.hid hsz4
            have HNEW4 := Lib.hid hnew4
            have HOUT4 := Lib.hid hout4
            have hB2 : B ≤ w2.heap.size := Nat.le_trans hB (Nat.le_trans HMADE.out.size HM2.out.size)
            have hi100 : i ≤ 100000 := by omega
            clear hout2 hbl4 hfacts hsz4 hnew4 hout4
            go_wp2_with (at_builtin; refine wpList_append_lies _ rfl _ _ 23 rfl B 33 i0 (.agg #[.string ⟨#[]⟩, .slice none 0 0, .string ⟨#[]⟩, .slice none 0 0]) 4 80 Tryz.underlying23 hi hz0 hz1 hz2 rfl (by decide) out i cs rfl HOUT4.out ⟨w2.heap.size, 0, none⟩ 1 1 [.string ⟨name.toArray⟩, .slice Aa attrs.length ca, .string ⟨text.toArray⟩, .slice An nn cn] ?ca rfl (World.news_of_block (cs := #[.string ⟨name.toArray⟩, .slice Aa attrs.length ca, .string ⟨text.toArray⟩, .slice An nn cn]) (t := 33) (fr := (0, 0)) HNEW4.out) ?cc (by decide) ?cd ?ce ?cf (w2.heap.size + 1) ?cg ?_)
            case ca => simp [Act.eval]
            case cc => intro u hu; simp at hu; rcases hu with rfl | rfl | rfl | rfl <;> rfl
            case cd => unfold maxLen; omega
            case ce => omega
            case cf => rw [HSZ4.out]; omega
            case cg => exact HSZ4.out
            intro gg cap w6 hown6 hgrow hat hlt6
            have HX := Lib.hid (And.intro hown6 (And.intro hgrow (And.intro hat hlt6)))
            clear hown6 hgrow hat hlt6
            go_wp2_with fail
            go_roundw
            case measure => simp [intOf]; omega
            case rel =>
              obtain ⟨hown6, hgrow, hat, hlt6⟩ := HX.out
              have hwsz := HMADE.out.size
              have hwsz2 := HM2.out.size
              have hwsz6 := hgrow.size
              rw [HSZ4.out] at hwsz6
              refine ⟨i + 1, .slice (some ⟨gg, 0, none⟩) (i + 1) cap, rfl, by omega, by go_num, Lib.hid ⟨⟨ks1 ++ [.mk name attrs text kids], ks2, bs1 ++ [b], bs2, s1 ++ (⟨b, name, attrs, .slice Aa attrs.length ca, text, kv, bs'⟩ :: sub1), s2, cs ++ [st name, .slice Aa attrs.length ca, st text, .slice An nn cn], by rw [HEE.out.1]; simp, by rw [HEE.out.2.1]; simp, by rw [HEE.out.2.2]; simp, by simp [HE.out.1], by simp [HE.out.2], HFR3.out, ?_, hown6, ?_, ?_⟩⟩⟩
              · refine ⟨by rw [hgrow.os, HFACTS.out.os, HM2.out.os, HMADE.out.os], by rw [hgrow.tape, HFACTS.out.tape, HM2.out.tape, HMADE.out.tape], by rw [hgrow.output, HFACTS.out.output, HM2.out.output, HMADE.out.output], Nat.le_trans hwsz (Nat.le_trans (Nat.le_trans HM2.out.size HFACTS.out.size) hgrow.size), fun k hk hn => ?_⟩
                simp only [List.map_append, List.map_cons, List.mem_append, List.mem_cons, not_or] at hn
                rw [hgrow.block k (by rw [HSZ4.out]; omega) (fun e => by have := HOB.out k e.symm; omega), HBL4.out k (by omega) hn.2.1, HM2.out.block k (by omega) hn.2.2, HMADE.out.block k hk hn.1]
              · intro k hk
                have e' : gg = k := by simpa [Value.ownBlock] using hk
                subst e'
                rcases hat with hat | hat
                · exact HOB.out gg hat
                · omega
              · have hnsub : ∀ k cs' t, wr.heap[k]? = some (.cells cs' t (0, 0)) → t ≠ 42 → k ∉ sub1.map (·.blk) ∧ k ≠ b ∧ k < wr.heap.size := fun k cs' t hk ht => ⟨fun hm => by
                    obtain ⟨q, hq, e⟩ := List.mem_map.1 hm
                    have := (HSR.out q hq).at_
                    rw [show q.blk = k from e, hk] at this
                    simp at this; exact ht this.2, typ_ne hk HRW.out.at_ ht, (Array.getElem?_eq_some_iff.1 hk).1⟩
                have hold : ∀ k cs' t, wr.heap[k]? = some (.cells cs' t (0, 0)) → t ≠ 42 → some k ≠ out.ownBlock → w6.heap[k]? = wr.heap[k]? := fun k cs' t hk ht hne => by
                  obtain ⟨a1, a2, a3⟩ := hnsub k cs' t hk ht
                  rw [hgrow.block k (by rw [HSZ4.out]; omega) hne, HBL4.out k (by omega) a2, HM2.out.block k a3 a1]
                have hbw : b < wr.heap.size := HRW.out.lt
                have hold2 : ∀ k, k < w2.heap.size → k ≠ b → some k ≠ out.ownBlock → w6.heap[k]? = w2.heap[k]? := fun k hk hkb hne => by
                  rw [hgrow.block k (by rw [HSZ4.out]; omega) hne, HBL4.out k hk hkb]
                have hgg : ∀ k, k < w2.heap.size → out.ownBlock ≠ some k → (Value.slice (some ⟨gg, 0, none⟩) (i + 1) cap).ownBlock ≠ some k := fun k hk hne e => by
                  have e' : gg = k := by simpa [Value.ownBlock] using e
                  subst e'
                  rcases hat with hat | hat
                  · exact hne hat
                  · omega
                refine ncells_snoc (ncells_kept (P := fun k => w.heap.size ≤ k ∧ k < wr.heap.size ∧ out.ownBlock ≠ some k) ?_ ?_ ?_ HCELLS.out) name attrs text kids _ _ ?_ ?_
                · rintro k ⟨b1, b2, b3⟩
                  exact ⟨b1, by omega, hgg k (by omega) b3⟩
                · intro k cs' hp hk
                  exact hold k cs' _ hk (by decide) (fun e => hp.2.2 e.symm)
                · intro k cs' hk
                  exact hold k cs' _ hk (by decide) (fun e => own_ne HOWN.out hk (by decide) e.symm)
                · refine own_kept HRW.out.ra (fun k hk => ?_)
                  obtain ⟨cs', hc⟩ := own_type HRW.out.ra k hk
                  exact hold k cs' _ hc (by decide) (fun e => own_ne HOWN.out hc (by decide) e.symm)
                · refine nrow_kept (P := fun k => wr.heap.size ≤ k ∧ k < w2.heap.size) ?_ ?_ ?_ HNR.out
                  · rintro k ⟨b1, b2⟩
                    exact ⟨by omega, by omega, hgg k b2 (fun e => by have := (own_lt HOWN.out k e).2; omega)⟩
                  · intro k cs' hp hk
                    exact hold2 k hp.2 (by omega) (fun e => by have := (own_lt HOWN.out k e.symm).2; omega)
                  · intro k cs' hk
                    exact hold2 k (Array.getElem?_eq_some_iff.1 hk).1 (typ_ne hk HB2.out (by decide)) (fun e => own_ne HOUT2.out hk (by decide) e.symm)
      · have hie : i = bs.length := by omega
        have hks : ks = ks1 ∧ sub = s1 := by
          have h1 := fr_len hfr2
          rw [e2, List.length_append, e5] at hie
          have h2 : bs2 = [] := List.eq_nil_of_length_eq_zero (by omega)
          subst h2
          cases hfr2
          exact ⟨by simpa using e1, by simpa using e3⟩
        obtain ⟨rfl, rfl⟩ := hks
        have hfin : NRow wr B (fun k => w.heap.size ≤ k ∧ k < wr.heap.size) out ks := .mk out ks cs (by rw [e4]; exact hown) (fun k hk => ⟨hob k hk, (own_lt hown k hk).2⟩) (ncells_kept (fun k hp => ⟨hp.1, hp.2.1⟩) (fun _ _ _ _ => rfl) (fun _ _ _ => rfl) hcells)
        have HFIN := Lib.hid (And.intro hfin hmade)
        clear hfin hmade hown hob hcells hfr2 e1 e2 e3 e4 e5 hinv typ H0 hlt
        subst hie
        go_wp2_with fail
        go_ret
        exact ⟨out, rfl, HFIN.out⟩
end Go.Proofs.YtdmmeinkligmcaaGreatDoor
