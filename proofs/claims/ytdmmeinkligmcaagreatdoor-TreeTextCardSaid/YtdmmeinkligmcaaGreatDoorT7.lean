/- (*builder).start. -/
import Derived.Test.YtdmmeinkligmcaaGreatDoorT6
set_option linter.unusedVariables false
set_option maxRecDepth 100000
set_option maxHeartbeats 2000000
namespace Go.Proofs.YtdmmeinkligmcaaGreatDoor
open Go.RowKit

theorem BAt.ov {w : World} {B bb : Nat} {opn : List Nat} {c : Nat} {rs : List Rec} (h : BAt w B bb opn c rs) : ∃ ov, w.cell? ⟨bb, 0, none⟩ = some ov ∧ w.frozen? ⟨bb, 0, none⟩ = false ∧ w.heap[bb]? = some (.cells #[ov, .int .i64 c] 44 (0, 0)) ∧ w.ownsRow B 39 1 ov opn.length (ptrs opn) ∧ ∀ r, r ∈ rs → Apart ov r.kv := by
  obtain ⟨ov, h1, h2, h3⟩ := h.bld
  exact ⟨ov, by rw [Lib.cell_of_heap h1]; rfl, Lib.frozen_of_heap h1 0, h1, h2, h3⟩
/-- A part is opened. -/
theorem BAt.push {w w1 : World} {B bb : Nat} {opn : List Nat} {c : Nat} {rs : List Rec} {g cap nb : Nat} {ov : Value} (h : BAt w B bb opn c rs) (h1 : w.heap[bb]? = some (.cells #[ov, .int .i64 c] 44 (0, 0))) (h2 : w.ownsRow B 39 1 ov opn.length (ptrs opn)) (h3 : ∀ r, r ∈ rs → Apart ov r.kv)
    (hown : w1.ownsRow B 39 1 (.slice (some ⟨g, 0, none⟩) (opn.length + 1) cap) (opn.length + 1) (ptrs opn ++ [ptr nb])) (hg : w.grownBy w1 ov.ownBlock) (hat : ov.ownBlock = some g ∨ g = w.heap.size) :
    BAt (w1.setCell ⟨bb, 0, none⟩ (.slice (some ⟨g, 0, none⟩) (opn.length + 1) cap)) B bb (opn ++ [nb]) c rs ∧ Far B w (w1.setCell ⟨bb, 0, none⟩ (.slice (some ⟨g, 0, none⟩) (opn.length + 1) cap)) := by
  have old1 : ∀ k, k < w.heap.size → some k ≠ ov.ownBlock → w1.heap[k]? = w.heap[k]? := hg.block
  have old : ∀ k, k < w.heap.size → some k ≠ ov.ownBlock → k ≠ bb → (w1.setCell ⟨bb, 0, none⟩ (.slice (some ⟨g, 0, none⟩) (opn.length + 1) cap)).heap[k]? = w.heap[k]? := fun k hk h4 h5 => by
    rw [Below.heap_setCell _ _ _ k h5]; exact old1 k hk h4
  have far : ∀ k cs t, w.heap[k]? = some (.cells cs t (0, 0)) → t ≠ 39 → some k ≠ ov.ownBlock := fun k cs t hk ht e => own_ne h2 hk ht e.symm
  have hlt := (Array.getElem?_eq_some_iff.1 h1).1
  have hbb1 : w1.heap[bb]? = some (.cells #[ov, .int .i64 c] 44 (0, 0)) := by rw [old1 _ hlt (far _ _ _ h1 (by decide))]; exact h1
  have hbel : Below B w (w1.setCell ⟨bb, 0, none⟩ (.slice (some ⟨g, 0, none⟩) (opn.length + 1) cap)) := by
    refine Below.setCell ⟨hg.os, hg.tape, hg.output, hg.size, fun k hk => old1 k (by have := h.le; omega) (fun e => ?_)⟩ h.lo _
    have := (own_lt h2 k e.symm).1; omega
  have keepAt : ∀ (v : Value) (l : List At), RA w B v l → RA (w1.setCell ⟨bb, 0, none⟩ (.slice (some ⟨g, 0, none⟩) (opn.length + 1) cap)) B v l := fun v l hv => by
    refine own_kept hv (fun k hk => ?_)
    obtain ⟨cs, hc⟩ := own_type hv k hk
    exact old k (own_lt hv k hk).2 (far _ _ _ hc (by decide)) (typ_ne hc h1 (by decide))
  have keepRow : ∀ (v : Value) (n : Nat) (xs : List Value), w.ownsRow B 39 1 v n xs → Apart ov v → (w1.setCell ⟨bb, 0, none⟩ (.slice (some ⟨g, 0, none⟩) (opn.length + 1) cap)).ownsRow B 39 1 v n xs := fun v n xs hv ha => by
    refine own_kept hv (fun k hk => ?_)
    obtain ⟨cs, hc⟩ := own_type hv k hk
    exact old k (own_lt hv k hk).2 (fun e => ha k e.symm hk) (typ_ne hc h1 (by decide))
  refine ⟨⟨⟨fun r hr => ?_, h.mem.blks, h.mem.rows⟩, h.gb.next hbel, Nat.le_trans h.le hbel.size, ⟨.slice (some ⟨g, 0, none⟩) (opn.length + 1) cap, ?_, ?_, fun r hr => ?_⟩, h.lo⟩, hbel, (Kept.grow hg (fun k hk => by obtain ⟨cs, hc⟩ := own_type h2 k hk; exact ⟨cs, _, hc⟩)).trans (Kept.set hbb1 (.inl rfl) _)⟩
  · have hr' := h.mem.each r hr
    exact ⟨hr'.lo, by rw [old _ hr'.lt (far _ _ _ hr'.at_ (by decide)) (typ_ne hr'.at_ h1 (by decide))]; exact hr'.at_, keepRow _ _ _ hr'.row (h3 r hr), keepAt _ _ hr'.ra⟩
  · rw [Lib.heap_setCell_same hbb1]; rfl
  · rw [ptrs_snoc, List.length_append]
    refine ownsRow_setCell_other hown ?_ _
    exact own_ne hown hbb1 (by decide)
  · intro k hk e
    have e' : g = k := by simpa [Value.ownBlock] using hk
    subst e'
    rcases hat with hat | hat
    · exact h3 r hr g hat e
    · have := (own_lt (h.mem.each r hr).row g e).2; omega

/-- What start leaves. -/
def StartPost (B bb : Nat) (opn : List Nat) (names : List Bs) (count : Nat) (rs : List Rec) (name : Bs) (attrs : List At) (av : Value) (w' : World) : Prop :=
  (count = 5000 → BAt w' B bb (opn.take (shutAll (closesB name) names).length) 5000 rs) ∧
  (count < 5000 → ∃ r0 rest os nb kv', rs.Perm (r0 :: rest) ∧ opn.take (shutAll (closesB name) names).length = os ++ [r0.blk] ∧
    BAt w' B bb (if !voidB name && decide ((shutAll (closesB name) names).length ≤ 30) then os ++ [r0.blk] ++ [nb] else os ++ [r0.blk]) (count + 1) ({ r0 with kv := kv', kids := r0.kids ++ [nb] } :: ⟨nb, name, attrs, av, [], .slice none 0 0, []⟩ :: rest))
structure StartInv (w : World) (B bb tb : Nat) (opn : List Nat) (names : List Bs) (count : Nat) (rs : List Rec) (name : Bs) (tok : Array Value) (wr : World) (ns : List Bs) : Prop where
  bat : BAt wr B bb (opn.take ns.length) count rs
  far : Far B w wr
  tok : wr.heap[tb]? = some (.cells tok 48 (0, 0))
  take : ns = names.take ns.length
  pos : 0 < ns.length
  le : ns.length ≤ names.length
  eq : shutAll (closesB name) names = shutAll (closesB name) ns

theorem start_any (B bb count : Nat) (kind : Int) (opn : List Nat) (names : List Bs) (rs : List Rec) (name : Bs) (attrs : List At) (av : Value) (text : Bs) (w : World) (h : BAt w B bb opn count rs) (hN : Named opn names rs) (ha : RA w B av attrs) (hc5 : count ≤ 5000) (hlen : opn.length ≤ 100000) (hpos : 0 < opn.length)
    (hnl : ∀ n, n ∈ names → n.length ≤ 100000000) (hname : name.length ≤ 100000000) (hkl : ∀ r, r ∈ rs → r.kids.length ≤ 100000) :
    Calls Tryz.prog 27 #[.pointer (some ⟨bb, 0, none⟩), .agg #[.int .i64 kind, st name, av, st text]] w fun e w' => e = .returned (.tuple #[]) ∧ Far B w w' ∧ StartPost B bb opn names count rs name attrs av w' := by
  obtain ⟨i0, hi, hz0, hz1, hz2⟩ := info_parts pp_info
  obtain ⟨A, cp, rfl⟩ := ha.one
  have H0 : StartInv w B bb w.heap.size opn names count rs name #[.int .i64 kind, st name, .slice A attrs.length cp, st text] (w.alloc (.cells #[.int .i64 kind, st name, .slice A attrs.length cp, st text] 48)) names := by
    refine ⟨?_, (Far.refl B w).alloc h.le _, heap_alloc_new w _, by rw [List.take_length], by rw [hN.1]; exact hpos, Nat.le_refl _, rfl⟩
    rw [hN.1, List.take_length]
    exact h.below ((Below.refl _ _).alloc (Nat.le_refl _) _)
  have HN := Lib.hid hN
  have HNL := Lib.hid hnl
  have HKL := Lib.hid hkl
  have HA := Lib.hid ha
  have HW := Lib.hid h.le
  replace H0 := Lib.hid H0
  have htk : Hid (∀ wr, Far B w wr → RA wr B (.slice A attrs.length cp) attrs) := Lib.hid (fun wr hf => by
    refine own_kept ha (fun k hk => ?_)
    obtain ⟨cs, hc⟩ := own_type ha k hk
    rw [hc]; exact hf.kept k cs _ _ hc (by decide) (by decide) (by decide))
  clear h hN hnl hkl ha
  generalize hst : StartPost B bb opn names count rs name attrs (.slice A attrs.length cp) = SP at *
  have HSP := Lib.hid hst
  clear hst
  unfold st at *
  go_enter Tryz.func27, Tryz.ntmps27
  go_wp2_with fail
  generalize htb : w.heap.size = tb at *
  go_loopw [5] (fun _ wr => Hid (∃ ns, StartInv w B bb tb opn names count rs name #[.int .i64 kind, .string ⟨name.toArray⟩, .slice A attrs.length cp, .string ⟨text.toArray⟩] wr ns))
    (fun _ wr => openLen wr bb)
  case atStart => exact Lib.hid ⟨_, H0.out⟩
  case round =>
    obtain ⟨ns, hinv⟩ := hrel.out
    have HI := Lib.hid hinv
    have hlns : (opn.take ns.length).length = ns.length := by have := hinv.le; have := HN.out.1; simp; omega
    have hol := hinv.bat.openLen
    rw [hlns] at hol
    have hlen1 : ns.length ≤ 100000 := by have := hinv.le; have := HN.out.1; omega
    have hpos1 := hinv.pos
    have hnl1 : ∀ n, n ∈ ns → n.length ≤ 100000000 := fun n hn => HNL.out n (by rw [hinv.take] at hn; exact List.mem_of_mem_take hn)
    have htc : wr.cell? ⟨tb, 1, none⟩ = some (st name) := by rw [Lib.cell_of_heap hinv.tok]; rfl
    have htc1 : wr.cell? ⟨tb, 1, none⟩ = some (.string ⟨name.toArray⟩) := htc
    have htc2 : wr.cell? ⟨tb, 2, none⟩ = some (.slice A attrs.length cp) := by rw [Lib.cell_of_heap hinv.tok]; rfl
    have hg := hinv.bat.gb.glob
    have HSHUT : Hid (Calls Tryz.prog 28 #[.pointer (some ⟨bb, 0, none⟩), .func (.func 49) #[] #[.pointer (some ⟨tb, 0, none⟩)]] wr fun e w' => ShutPost B bb (opn.take ns.length) count rs wr (shutI (closesB name) ns (ns.length - 1)) e w') := Lib.hid (by
      have h1 := HN.out.take ns.length
      rw [← hinv.take] at h1
      have := shut_start B bb count (.pointer (some ⟨tb, 0, none⟩)) (closesB name) (opn.take ns.length) ns rs wr hinv.bat h1 (by omega) (by omega) hnl1 (fun n hn => so_start tb name n wr hg htc hname hn)
      rw [hlns] at this
      exact this)
    clear hrel hinv hnl1 htc hg
    cases hsi : shutI (closesB name) ns (ns.length - 1) with
    | some i =>
      rw [hsi] at HSHUT
      have HSI := Lib.hid hsi
      clear hsi
      go_wp2_with fail
      refine HSHUT.out.mono ?_
      rintro e1 w1 ⟨rfl, h1, h2, h3, h4⟩
      have HX := Lib.hid (And.intro h1 (And.intro h2 (And.intro h3 h4)))
      clear h1 h2 h3 h4
      go_wp2_with fail
      have hi1 := HX.out.1
      have hti : (ns.take i).length = i := by simp; omega
      have hI := HI.out
      have hbat : BAt w1 B bb (opn.take (ns.take i).length) count rs := by
        have := HX.out.2.2.1
        rw [List.take_take] at this
        rw [hti]
        rwa [Nat.min_eq_left (by omega)] at this
      refine ⟨Lib.hid ⟨ns.take i, ⟨hbat, hI.far.trans HX.out.2.2.2, ?_, ?_, by rw [hti]; exact HX.out.2.1, by rw [hti]; have := hI.le; omega, ?_⟩⟩, ?_⟩
      · exact HX.out.2.2.2.kept tb _ _ _ hI.tok (by decide) (by decide) (by decide)
      · rw [hti]
        have := hI.take
        rw [this, List.take_take, Nat.min_eq_left (by omega)]
      · rw [hI.eq]; exact shutAll_some _ _ _ HSI.out
      · rw [hol]
        have := HX.out.2.2.1.openLen
        rw [this, List.length_take]
        omega
    | none =>
      rw [hsi] at HSHUT
      have HSI := Lib.hid hsi
      clear hsi
      go_wp2_with fail
      refine HSHUT.out.mono ?_
      rintro e1 w1 ⟨rfl, rfl⟩
      go_wp2_with fail
      have hI := HI.out
      have hfin : shutAll (closesB name) names = ns := by rw [hI.eq]; exact shutAll_none _ _ HSI.out
      by_cases h5 : count = 5000
      · subst h5
        have HPF : Hid (Calls Tryz.prog 48 #[.pointer (some ⟨bb, 0, none⟩), .agg #[.string ⟨name.toArray⟩, .slice A attrs.length cp, .string ⟨#[]⟩, .slice none 0 0]] w1 fun e w' => e = .returned (.pointer none) ∧ BAt w' B bb (opn.take ns.length) 5000 rs ∧ Far B w1 w') := Lib.hid (put_full B bb (opn.take ns.length) rs name attrs (.slice A attrs.length cp) [] w1 hI.bat (htk.out w1 hI.far))
        have hsp : ∀ w', BAt w' B bb (opn.take ns.length) 5000 rs → SP w' := fun w' hb => by
          rw [← HSP.out]
          exact ⟨fun _ => by rw [hfin]; exact hb, fun h => by omega⟩
        have HSPF := Lib.hid hsp
        clear hsp hfin hI
        refine HPF.out.mono ?_
        rintro e2 w2 ⟨rfl, hb2, hf2⟩
        have HB2 := Lib.hid hb2
        have HF2 := Lib.hid hf2
        clear hb2 hf2
        go_wp2_with fail
        go_end0
        exact ⟨rfl, HI.out.far.trans HF2.out, HSPF.out _ HB2.out⟩
      · obtain ⟨os, b0, hos⟩ : ∃ os b0, opn.take ns.length = os ++ [b0] := by
          rcases List.eq_nil_or_concat (opn.take ns.length) with e | ⟨os, b0, e⟩
          · rw [e] at hlns; simp at hlns; omega
          · exact ⟨os, b0, by rw [e, List.concat_eq_append]⟩
        have hosl : os.length + 1 = ns.length := by have := congrArg List.length hos; rw [hlns] at this; simpa using this.symm
        obtain ⟨r0, hr0, hb0, -⟩ := (HN.out.take ns.length).2 os.length b0 (by rw [hos]; simp)
        obtain ⟨l1, l2, hsplit⟩ := List.append_of_mem hr0
        have hperm : rs.Perm (r0 :: (l1 ++ l2)) := by rw [hsplit]; exact List.perm_middle
        subst hb0
        have hkl0 := HKL.out r0 hr0
        have hbat := hI.bat
        rw [hos] at hbat
        have HPA : Hid (Calls Tryz.prog 48 #[.pointer (some ⟨bb, 0, none⟩), .agg #[.string ⟨name.toArray⟩, .slice A attrs.length cp, .string ⟨#[]⟩, .slice none 0 0]] w1 fun e w' => ∃ nb kv', e = .returned (ptr nb) ∧ BAt w' B bb (os ++ [r0.blk]) (count + 1) ({ r0 with kv := kv', kids := r0.kids ++ [nb] } :: ⟨nb, name, attrs, .slice A attrs.length cp, [], .slice none 0 0, []⟩ :: (l1 ++ l2)) ∧ Far B w1 w') :=
          Lib.hid (put_any B bb r0.blk count os r0 (l1 ++ l2) name attrs (.slice A attrs.length cp) [] w1 (hbat.perm hperm) rfl (htk.out w1 hI.far) (by omega) (by omega) hkl0)
        have hsp : ∀ w' nb kv', BAt w' B bb (if !voidB name && decide (ns.length ≤ 30) then os ++ [r0.blk] ++ [nb] else os ++ [r0.blk]) (count + 1) ({ r0 with kv := kv', kids := r0.kids ++ [nb] } :: ⟨nb, name, attrs, .slice A attrs.length cp, [], .slice none 0 0, []⟩ :: (l1 ++ l2)) → SP w' := fun w' nb kv' hb => by
          rw [← HSP.out]
          exact ⟨fun h => absurd h h5, fun _ => ⟨r0, l1 ++ l2, os, nb, kv', hperm, by rw [hfin]; exact hos, by rw [hfin]; exact hb⟩⟩
        have HSPF := Lib.hid hsp
        clear hsp hfin hI hbat hos hr0 hsplit hperm hkl0 h5
        refine HPA.out.mono ?_
        rintro e2 w2 ⟨nb, kv', rfl, hb2, hf2⟩
        have htc1' : w2.cell? ⟨tb, 1, none⟩ = some (.string ⟨name.toArray⟩) := by rw [Lib.cell_of_heap (hf2.kept tb _ _ _ HI.out.tok (by decide) (by decide) (by decide))]; rfl
        obtain ⟨ov, ho1, ho2, ho3, ho4, ho5⟩ := hb2.ov
        obtain ⟨m, hm⟩ := hb2.gb.glob.maxlen
        have HVD : Hid (Calls Tryz.prog 20 #[.string ⟨name.toArray⟩] w2 fun e w' => e = .returned (.bool (voidB name)) ∧ w2 = w') := Lib.hid (void_any ⟨name.toArray⟩ m w2 hm (by rw [size_mk]; omega))
        have HB2 := Lib.hid hb2
        have HF2 := Lib.hid (HI.out.far.trans hf2)
        have HO := Lib.hid (And.intro ho3 (And.intro ho4 ho5))
        obtain ⟨A3, c3, hov, -, -, -⟩ := own_form ho4
        rw [show (os ++ [r0.blk]).length = ns.length by simp; omega] at hov
        subst hov
        clear hb2 hf2 hm ho3 ho4 ho5 htc1 htc2
        go_wp2_with fail
        refine HVD.out.mono ?_
        rintro e3 w3 ⟨rfl, rfl⟩
        cases hv : voidB name with
        | true =>
          rw [hv] at HSPF
          have HS2 := Lib.hid (HSPF.out w2 nb kv' (by simpa using HB2.out))
          clear HSPF
          go_wp2_with fail
          go_end0
          exact ⟨rfl, HF2.out, HS2.out⟩
        | false =>
          rw [hv] at HSPF
          by_cases h30 : ns.length ≤ 30
          · have HS2 := Lib.hid (fun w' (hb : BAt w' B bb (os ++ [r0.blk] ++ [nb]) (count + 1) _) => HSPF.out w' nb kv' (by simpa [h30] using hb))
            clear HSPF
            have hsz3 : w2.heap.size + 1 = (w2.alloc (.cells #[.pointer (some ⟨nb, 0, none⟩)] 39)).heap.size := by simp
            have hb3 := (Below.refl w2.heap.size w2).alloc (Nat.le_refl _) (.cells #[.pointer (some ⟨nb, 0, none⟩)] 39)
            have HROW := Lib.hid (own_below HO.out.2.1 hb3)
            have HBLD := Lib.hid (show (w2.alloc (.cells #[.pointer (some ⟨nb, 0, none⟩)] 39)).heap[bb]? = some (.cells #[.slice A3 ns.length c3, .int .i64 ((count + 1 : Nat) : Int)] 44 (0, 0)) by rw [hb3.block bb (Array.getElem?_eq_some_iff.1 HO.out.1).1]; exact HO.out.1)
            have HNEW : Hid ((w2.alloc (.cells #[.pointer (some ⟨nb, 0, none⟩)] 39)).heap[w2.heap.size]? = some (.cells #[.pointer (some ⟨nb, 0, none⟩)] 39)) := Lib.hid (heap_alloc_new w2 _)
            have HLE := Lib.hid HB2.out.le
            have hlen3 : (os ++ [r0.blk]).length = ns.length := by simp; omega
            have F1 : Hid (∀ (w1 : World), (w2.alloc (.cells #[.pointer (some ⟨nb, 0, none⟩)] 39)).grownBy w1 (Value.slice A3 ns.length c3).ownBlock → w1.cell? ⟨bb, 0, none⟩ = some (.slice A3 ns.length c3) ∧ w1.frozen? ⟨bb, 0, none⟩ = false) := Lib.hid (fun w1 hg => by
              have h1 : w1.heap[bb]? = some (.cells #[.slice A3 ns.length c3, .int .i64 ((count + 1 : Nat) : Int)] 44 (0, 0)) := by
                rw [hg.block _ (Array.getElem?_eq_some_iff.1 HBLD.out).1 (fun e => own_ne HROW.out HBLD.out (by decide) e.symm)]; exact HBLD.out
              exact ⟨by rw [Lib.cell_of_heap h1]; rfl, Lib.frozen_of_heap h1 0⟩)
            have HB3 := Lib.hid (HB2.out.below hb3)
            have HF3 := Lib.hid (HF2.out.trans (Far.mono hb3 HB2.out.le))
            have hBs : B ≤ w2.heap.size + 1 := by have := HLE.out; omega
            rw [hlen3] at HROW
            have HL3 := Lib.hid hlen3
            clear hb3 hlen3
            go_wp2_with (at_builtin; refine wpList_append_lies _ rfl _ _ 40 rfl B 39 i0 (.pointer none) 1 8 Tryz.underlying40 hi hz0 hz1 hz2 rfl (by decide) (.slice A3 ns.length c3) ns.length (ptrs (os ++ [r0.blk])) rfl HROW.out ⟨w2.heap.size, 0, none⟩ 1 1 [.pointer (some ⟨nb, 0, none⟩)] rfl rfl (World.news_of_block (cs := #[.pointer (some ⟨nb, 0, none⟩)]) (t := 39) (fr := (0, 0)) HNEW.out) ?cc (by decide) ?cd ?ce ?cf (w2.heap.size + 1) ?cg ?_)
            case cc => intro u hu; simp at hu; subst hu; rfl
            case cd => unfold maxLen; omega
            case ce => omega
            case cf => rw [← hsz3]; exact hBs
            case cg => exact hsz3.symm
            intro gg cap w6 hown6 hgrow hat hlt6
            have hst := F1.out w6 hgrow
            obtain ⟨hce, hfe⟩ := hst
            have HX := Lib.hid (And.intro hown6 (And.intro hgrow hat))
            clear hown6 hgrow hat
            go_wp2_with fail
            go_end0
            have hpush := HB3.out.push (ov := .slice A3 ns.length c3) (g := gg) (cap := cap) (nb := nb) HBLD.out (by rw [HL3.out]; exact HROW.out) HO.out.2.2 (by rw [HL3.out]; exact HX.out.1) HX.out.2.1 (by rw [← hsz3]; exact HX.out.2.2)
            rw [HL3.out] at hpush
            exact ⟨rfl, HF3.out.trans hpush.2, HS2.out _ hpush.1⟩
          · have HS2 := Lib.hid (HSPF.out w2 nb kv' (by simpa [h30] using HB2.out))
            clear HSPF
            go_wp2_with fail
            go_end0
            exact ⟨rfl, HF2.out, HS2.out⟩
end Go.Proofs.YtdmmeinkligmcaaGreatDoor
