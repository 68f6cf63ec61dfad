/- chars, the ends and the begins as the zipper has them. -/
import Derived.Test.YtdmmeinkligmcaaGreatDoorT11
set_option linter.unusedVariables false
set_option maxRecDepth 100000
set_option maxHeartbeats 2000000
namespace Go.Proofs.YtdmmeinkligmcaaGreatDoor
open Go.RowKit

theorem chars_z (B bb count T : Nat) (z : List Fm) (t : Bs) (w : World) (h : ZAt w B bb z count T) (hT : T + t.length ≤ 1000000000) :
    Calls Tryz.prog 26 #[.pointer (some ⟨bb, 0, none⟩), st t] w fun e w' => e = .returned (.tuple #[]) ∧ ZAt w' B bb (charsZ z count t).1 (charsZ z count t).2 (T + t.length) ∧ Far B w w' := by
  match z, h with
  | [], h => exact absurd h.pos (by simp)
  | f :: fs, h =>
    have hput : ∀ n, Calls Tryz.prog 48 #[.pointer (some ⟨bb, 0, none⟩), .agg #[st [], .slice none 0 0, st t, .slice none 0 0]] (w.drewN n) fun e w' => (∃ v, e = .returned v) ∧ (ZAt w' B bb (if count = 5000 then f :: fs else { f with kids := f.kids ++ [.mk [] [] t []] } :: fs) (if count = 5000 then count else count + 1) (T + t.length) ∧ Far B w w') := fun n => by
      refine (put_z B bb count T f fs [] [] (.slice none 0 0) t (w.drewN n) (h.drewN n) (RA.nil _ B) (by simp)).mono ?_
      rintro e w' ⟨h1, h2, h3⟩
      exact ⟨h1, h2, ((Far.refl B w).drewN n).trans h3⟩
    obtain ⟨opn, rs, hb, hz, hbn⟩ := h.ex
    obtain ⟨b, os, av0, kv, bs, sub, rest, rfl, rfl, hf, hfz⟩ := fz_head hz
    have hol := fz_len hz
    have hol2 := h.len
    have hosl : os.length ≤ 100000 := by simp at hol hol2; omega
    have hcl := h.cnt
    rcases List.eq_nil_or_concat f.kids with e | ⟨ks, k, e⟩
    · rw [e] at hf
      cases hf
      have hcz : charsZ (f :: fs) count t = ((if count = 5000 then f :: fs else { f with kids := f.kids ++ [.mk [] [] t []] } :: fs), (if count = 5000 then count else count + 1)) := by
        unfold charsZ; simp only [e, List.getLast?_nil]; split <;> rfl
      rw [hcz]
      exact tchars_none B bb b count os _ _ t w _ hb rfl rfl hosl hput
    · rw [List.concat_eq_append] at e
      rw [e] at hf
      obtain ⟨bs1, b1, s1, s2, rfl, rfl, hf1, ht⟩ := fr_snoc hf
      cases ht with
      | mk nm a x kk _ av1 kv1 bs2 sub2 hf2 =>
        have hperm : (⟨b, f.name, f.attrs, av0, [], kv, bs1 ++ [b1]⟩ :: ((s1 ++ (⟨b1, nm, a, av1, x, kv1, bs2⟩ :: sub2)) ++ rest)).Perm (⟨b, f.name, f.attrs, av0, [], kv, bs1 ++ [b1]⟩ :: ⟨b1, nm, a, av1, x, kv1, bs2⟩ :: (s1 ++ (sub2 ++ rest))) := by
          refine List.Perm.cons _ ?_
          simp only [List.append_assoc, List.cons_append]
          exact List.perm_middle
        have hk0 := (hbn ⟨b, f.name, f.attrs, av0, [], kv, bs1 ++ [b1]⟩ (by simp)).1
        have hkl : bs1.length ≤ 100000 := by simp at hk0; omega
        by_cases hnm : nm = []
        · subst hnm
          have hcz : charsZ (f :: fs) count t = ({ f with kids := ks ++ [.mk [] a (x ++ t) kk] } :: fs, count) := by
            unfold charsZ; simp [e]
          rw [hcz]
          have hx := (hbn ⟨b1, [], a, av1, x, kv1, bs2⟩ (by simp)).2.2
          simp only at hx
          refine (tchars_join B bb b count os bs1 _ ⟨b1, [], a, av1, x, kv1, bs2⟩ _ t w (hb.perm hperm) rfl rfl rfl hosl hkl (by simp only; omega)).mono ?_
          rintro e1 w' ⟨rfl, h1, h2⟩
          have hperm2 : (⟨b, f.name, f.attrs, av0, [], kv, bs1 ++ [b1]⟩ :: ⟨b1, [], a, av1, x ++ t, kv1, bs2⟩ :: (s1 ++ (sub2 ++ rest))).Perm (⟨b, f.name, f.attrs, av0, [], kv, (bs1 ++ [b1]) ++ none.toList⟩ :: ((s1 ++ ((⟨b1, [], a, av1, x ++ t, kv1, bs2⟩ :: sub2) ++ [])) ++ rest)) := by
            simp only [Option.toList_none, List.append_nil]
            refine List.Perm.cons _ ?_
            simp only [List.append_assoc, List.cons_append]
            exact List.perm_middle.symm
          refine ⟨rfl, ⟨⟨os ++ [b], _, h1.perm hperm2, ?_, Bnd.perm ?_ hperm2⟩, by simp, by simpa using h.len, hcl⟩, h2⟩
          · rw [List.reverse_append]
            exact .cons { f with kids := ks ++ [.mk [] a (x ++ t) kk] } fs b os.reverse none av0 kv (bs1 ++ [b1]) _ rest (fr_app hf1 (.cons _ _ _ _ _ _ (.mk [] a (x ++ t) kk b1 av1 kv1 bs2 sub2 hf2) .nil)) hfz
          · have hbp := hbn.perm hperm
            intro r hr
            rcases List.mem_cons.1 hr with rfl | hr
            · have := hbp _ (List.mem_cons_self)
              exact ⟨this.1, this.2.1, by simp⟩
            · rcases List.mem_cons.1 hr with rfl | hr
              · have := hbp ⟨b1, [], a, av1, x, kv1, bs2⟩ (by simp)
                exact ⟨this.1, this.2.1, by simp; omega⟩
              · have := hbp r (List.mem_cons_of_mem _ (List.mem_cons_of_mem _ hr))
                exact ⟨this.1, this.2.1, by omega⟩
        · have hcz : charsZ (f :: fs) count t = ((if count = 5000 then f :: fs else { f with kids := f.kids ++ [.mk [] [] t []] } :: fs), (if count = 5000 then count else count + 1)) := by
            unfold charsZ
            simp only [e, List.getLast?_append, List.getLast?_singleton, Option.some_or]
            split
            · rename_i h; simp at h; exact absurd h.1 hnm
            · split <;> rfl
          rw [hcz]
          exact tchars_new B bb b count os bs1 _ ⟨b1, nm, a, av1, x, kv1, bs2⟩ _ t w _ (hb.perm hperm) rfl rfl hnm hosl hkl hput
end Go.Proofs.YtdmmeinkligmcaaGreatDoor
