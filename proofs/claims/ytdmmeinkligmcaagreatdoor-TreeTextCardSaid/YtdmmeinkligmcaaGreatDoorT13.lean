/- The ends and the begins as the zipper has them. -/
import Derived.Test.YtdmmeinkligmcaaGreatDoorT12
set_option linter.unusedVariables false
set_option maxRecDepth 100000
set_option maxHeartbeats 2000000
namespace Go.Proofs.YtdmmeinkligmcaaGreatDoor
open Go.RowKit

def endZ (z : List Fm) (name : Bs) : List Fm :=
  match shutI (fun n => n == name) (namesZ z) (z.length - 1) with
  | some i => popTo (z.length - i) z
  | none => z
def startZ (z : List Fm) (count : Nat) (name : Bs) (attrs : List At) : List Fm × Nat :=
  if count = 5000 then (popTo (z.length - (shutAll (closesB name) (namesZ z)).length) z, count) else
  match popTo (z.length - (shutAll (closesB name) (namesZ z)).length) z with
  | [] => ([], count)
  | f :: fs => if !voidB name && decide ((shutAll (closesB name) (namesZ z)).length ≤ 30) then (⟨name, attrs, []⟩ :: f :: fs, count + 1) else ({ f with kids := f.kids ++ [.mk name attrs [] []] } :: fs, count + 1)
theorem namesZ_len (z : List Fm) : (namesZ z).length = z.length := by simp [namesZ]
theorem shutAllF_len (so : Bs → Bool) : ∀ (f : Nat) (ns : List Bs), 0 < ns.length → 0 < (shutAllF so f ns).length ∧ (shutAllF so f ns).length ≤ ns.length
  | 0, ns, h => ⟨h, Nat.le_refl _⟩
  | f + 1, ns, h => by
    unfold shutAllF
    cases hs : shutI so ns (ns.length - 1) with
    | none => exact ⟨h, Nat.le_refl _⟩
    | some i =>
      have hi := shutI_lt so ns _ _ hs
      have hl : (ns.take i).length = i := by simp; omega
      have := shutAllF_len so f (ns.take i) (by omega)
      simp only
      omega
theorem nodup_eq {rs : List Rec} (h : (rs.map (·.blk)).Nodup) {a b : Rec} (ha : a ∈ rs) (hb : b ∈ rs) (e : a.blk = b.blk) : a = b := by
  induction rs with
  | nil => cases ha
  | cons r rs ih =>
    simp only [List.map_cons, List.nodup_cons] at h
    rcases List.mem_cons.1 ha with ha' | ha' <;> rcases List.mem_cons.1 hb with hb' | hb'
    · rw [ha', hb']
    · exact absurd (List.mem_map.2 ⟨b, hb', by rw [← e, ha']⟩) h.1
    · exact absurd (List.mem_map.2 ⟨a, ha', by rw [e, hb']⟩) h.1
    · exact ih h.2 ha' hb'
theorem popTo_zero (z : List Fm) : popTo 0 z = z := rfl
/-- The open parts are cut down to i. -/
theorem fz_take {z : List Fm} {opn : List Nat} {rs : List Rec} (h : FZ z opn.reverse none rs) (i : Nat) (h0 : 0 < i) (hi : i ≤ opn.length) : ∃ rs', FZ (popTo (z.length - i) z) (opn.take i).reverse none rs' ∧ rs.Perm rs' := by
  have hl := fz_len h
  rw [List.length_reverse] at hl
  obtain ⟨rs', h1, h2⟩ := fz_popTo (n := z.length - i) h (by omega)
  refine ⟨rs', ?_, h2⟩
  have e : (opn.take i).reverse = opn.reverse.drop (z.length - i) := by
    rw [List.drop_reverse]
    congr 2
    omega
  rw [e]; exact h1
theorem popTo_len (n : Nat) (z : List Fm) (h : n < z.length) : (popTo n z).length = z.length - n := (namesZ_popTo n z h).2
theorem zat_take {w w' : World} {B bb : Nat} {z : List Fm} {count T : Nat} {opn : List Nat} {rs : List Rec} (h : ZAt w B bb z count T) (hz : FZ z opn.reverse none rs) (hbn : Bnd rs count T) (i : Nat) (h0 : 0 < i) (hi : i ≤ opn.length) (hb : BAt w' B bb (opn.take i) count rs) : ZAt w' B bb (popTo (z.length - i) z) count T := by
  have hl := fz_len hz
  rw [List.length_reverse] at hl
  obtain ⟨rs', h1, h2⟩ := fz_take hz i h0 hi
  have hpl := popTo_len (z.length - i) z (by omega)
  exact ⟨⟨_, rs', hb.perm h2, h1, hbn.perm h2⟩, by omega, by have := h.len; omega, h.cnt⟩
theorem names_bnd {z : List Fm} {opn : List Nat} {rs : List Rec} {count T : Nat} (hz : FZ z opn.reverse none rs) (hbn : Bnd rs count T) : ∀ n, n ∈ namesZ z → n.length ≤ 100000000 := by
  intro n hn
  have hN := fz_named hz
  rw [List.reverse_reverse] at hN
  obtain ⟨i, hi, e⟩ := List.mem_iff_getElem.1 hn
  have hi2 : i < opn.length := by rw [← hN.1]; exact hi
  obtain ⟨r, hr, _, e2⟩ := hN.2 i _ (List.getElem?_eq_getElem hi2)
  have : (namesZ z).getD i [] = n := by rw [List.getD_eq_getElem?_getD, List.getElem?_eq_getElem hi, e]; rfl
  rw [← this, ← e2]
  exact (hbn r hr).2.1

theorem end_z (B bb tb count T : Nat) (z : List Fm) (name : Bs) (w : World) (h : ZAt w B bb z count T) (htok : w.cell? ⟨tb, 1, none⟩ = some (st name)) :
    Calls Tryz.prog 28 #[.pointer (some ⟨bb, 0, none⟩), .func (.func 29) #[] #[.pointer (some ⟨tb, 0, none⟩)]] w fun e w' => (∃ b, e = .returned (.bool b)) ∧ ZAt w' B bb (endZ z name) count T ∧ Far B w w' := by
  obtain ⟨opn, rs, hb, hz, hbn⟩ := h.ex
  have hl := fz_len hz
  rw [List.length_reverse] at hl
  have hN := fz_named hz
  rw [List.reverse_reverse] at hN
  have hlen := h.len
  have hpos := h.pos
  refine (shut_end B bb count (.pointer (some ⟨tb, 0, none⟩)) (fun n => n == name) opn (namesZ z) rs w hb hN (by omega) (by omega) (names_bnd hz hbn) (fun n _ => so_end tb name n w htok)).mono ?_
  intro e w' hp
  unfold endZ
  rw [hl] at hp
  unfold ShutPost at hp
  split at hp
  · rename_i i hs
    obtain ⟨rfl, h1, h2, h3, h4⟩ := hp
    rw [hs]
    exact ⟨⟨_, rfl⟩, zat_take h hz hbn i h2 (by omega) h3, h4⟩
  · rename_i hs
    obtain ⟨rfl, rfl⟩ := hp
    rw [hs]
    exact ⟨⟨_, rfl⟩, h, Far.refl _ _⟩
theorem start_z (B bb count T : Nat) (kind : Int) (z : List Fm) (name : Bs) (attrs : List At) (av : Value) (text : Bs) (w : World) (h : ZAt w B bb z count T) (ha : RA w B av attrs) (hname : name.length ≤ 100000000) :
    Calls Tryz.prog 27 #[.pointer (some ⟨bb, 0, none⟩), .agg #[.int .i64 kind, st name, av, st text]] w fun e w' => e = .returned (.tuple #[]) ∧ ZAt w' B bb (startZ z count name attrs).1 (startZ z count name attrs).2 T ∧ Far B w w' := by
  obtain ⟨opn, rs, hb, hz, hbn⟩ := h.ex
  have hl := fz_len hz
  rw [List.length_reverse] at hl
  have hN := fz_named hz
  rw [List.reverse_reverse] at hN
  have hlen := h.len
  have hpos := h.pos
  have hcnt := h.cnt
  have hsl := shutAllF_len (closesB name) (namesZ z).length (namesZ z) (by rw [namesZ_len]; omega)
  rw [namesZ_len] at hsl
  have hsl' : 0 < (shutAll (closesB name) (namesZ z)).length ∧ (shutAll (closesB name) (namesZ z)).length ≤ z.length := by unfold shutAll; rw [namesZ_len]; exact hsl
  refine (start_any B bb count kind opn (namesZ z) rs name attrs av text w hb hN ha h.cnt (by omega) (by omega) (names_bnd hz hbn) hname (fun r hr => by have := (hbn r hr).1; omega)).mono ?_
  rintro e w' ⟨rfl, hfar, hp⟩
  refine ⟨rfl, ?_, hfar⟩
  unfold startZ
  generalize hn : (shutAll (closesB name) (namesZ z)).length = n at *
  have hn2 : (shutAll (closesB name) (namesZ z)).length = n := hn
  unfold StartPost at hp
  rw [hn2] at hp
  by_cases h5 : count = 5000
  · rw [if_pos h5]
    have := hp.1 h5
    rw [← h5] at this
    exact zat_take h hz hbn n hsl'.1 (by omega) this
  · rw [if_neg h5]
    obtain ⟨r0, rest, os, nb, kv', hperm, hos, hbat⟩ := hp.2 (by omega)
    obtain ⟨rs1, hz1, hp1⟩ := fz_take hz n hsl'.1 (by omega)
    have hpl := popTo_len (z.length - n) z (by omega)
    match hz2 : popTo (z.length - n) z, hz1 with
    | [], hz1 => rw [hz2] at hpl; simp at hpl; omega
    | f :: fs, hz1 =>
      rw [hz2] at hpl
      simp only [List.length_cons] at hpl
      obtain ⟨b, os1, av0, kv, bs, sub, rest1, ho1, hr1, hf, hfz⟩ := fz_head hz1
      subst hr1
      rw [ho1] at hos
      obtain ⟨hos1, hb0⟩ := List.append_inj' hos rfl
      have hb0' : r0.blk = b := by simpa using hb0.symm
      subst hos1
      have hpp := hperm.symm.trans hp1
      have hnd : ((⟨b, f.name, f.attrs, av0, [], kv, bs⟩ :: (sub ++ rest1) : List Rec).map (·.blk)).Nodup := ((hp1.map _).nodup_iff).1 hb.mem.blks
      have hr0 : r0 = ⟨b, f.name, f.attrs, av0, [], kv, bs⟩ := nodup_eq hnd (hpp.mem_iff.1 (List.mem_cons_self)) (List.mem_cons_self) hb0'
      subst hr0
      have hrest : rest.Perm (sub ++ rest1) := hpp.cons_inv
      have hbn1 := hbn.perm hp1
      have hbnd : Bnd (⟨b, f.name, f.attrs, av0, [], kv', bs ++ [nb]⟩ :: ⟨nb, name, attrs, av, [], .slice none 0 0, []⟩ :: (sub ++ rest1)) (count + 1) T := by
        intro r hr
        rcases List.mem_cons.1 hr with rfl | hr
        · have := hbn1 _ (List.mem_cons_self)
          exact ⟨by have := this.1; simp at this ⊢; omega, this.2.1, by simp⟩
        · rcases List.mem_cons.1 hr with rfl | hr
          · exact ⟨by simp, hname, by simp⟩
          · have := hbn1 r (List.mem_cons_of_mem _ hr)
            exact ⟨by omega, this.2.1, this.2.2⟩
      have hall : (⟨b, f.name, f.attrs, av0, [], kv', bs ++ [nb]⟩ :: ⟨nb, name, attrs, av, [], .slice none 0 0, []⟩ :: rest).Perm (⟨b, f.name, f.attrs, av0, [], kv', bs ++ [nb]⟩ :: ⟨nb, name, attrs, av, [], .slice none 0 0, []⟩ :: (sub ++ rest1)) := (hrest.cons _).cons _
      simp only
      cases hpush : (!voidB name && decide (n ≤ 30)) with
      | true =>
        rw [hpush, if_pos rfl] at hbat
        rw [if_pos rfl]
        have hn30 : n ≤ 30 := by simp at hpush; exact hpush.2
        have hb2 := (hbat.perm hall).perm (List.Perm.swap _ _ _)
        refine ⟨⟨_, _, hb2, ?_, hbnd.perm (List.Perm.swap _ _ _)⟩, by simp, by simp only [List.length_cons]; omega, by omega⟩
        rw [List.reverse_append, List.reverse_append]
        have := FZ.cons ⟨name, attrs, []⟩ (f :: fs) nb (b :: os1.reverse) none av (.slice none 0 0) [] [] _ .nil (FZ.cons f fs b os1.reverse (some nb) av0 kv' bs sub rest1 hf hfz)
        simpa using this
      | false =>
        rw [hpush, if_neg (by simp)] at hbat
        rw [if_neg (by simp)]
        obtain ⟨rs', h3, h4⟩ := fz_put (f := f) (fs := fs) (b := b) (nb := nb) (os := os1) (av := av0) (kv := .slice none 0 0) (kv' := kv') (av' := av) hf hfz name attrs []
        exact ⟨⟨_, rs', (hbat.perm hall).perm h4, h3, hbnd.perm h4⟩, by simp, by simp only [List.length_cons]; omega, by omega⟩
end Go.Proofs.YtdmmeinkligmcaaGreatDoor
