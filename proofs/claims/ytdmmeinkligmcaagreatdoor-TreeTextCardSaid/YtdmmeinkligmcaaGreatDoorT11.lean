/- The builder's steps as the zipper has them: chars. -/
import Derived.Test.YtdmmeinkligmcaaGreatDoorT10
set_option linter.unusedVariables false
set_option maxRecDepth 100000
set_option maxHeartbeats 2000000
namespace Go.Proofs.YtdmmeinkligmcaaGreatDoor
open Go.RowKit

def charsZ (z : List Fm) (count : Nat) (t : Bs) : List Fm × Nat :=
  match z with
  | [] => ([], count)
  | f :: fs =>
    match f.kids.getLast? with
    | some (.mk [] a x k) => ({ f with kids := f.kids.dropLast ++ [.mk [] a (x ++ t) k] } :: fs, count)
    | _ => if count = 5000 then (f :: fs, count) else ({ f with kids := f.kids ++ [.mk [] [] t []] } :: fs, count + 1)
def Bnd (rs : List Rec) (count T : Nat) : Prop := ∀ r, r ∈ rs → r.kids.length ≤ count ∧ r.name.length ≤ 100000000 ∧ r.text.length ≤ T
structure ZAt (w : World) (B bb : Nat) (z : List Fm) (count T : Nat) : Prop where
  ex : ∃ opn rs, BAt w B bb opn count rs ∧ FZ z opn.reverse none rs ∧ Bnd rs count T
  pos : 0 < z.length
  len : z.length ≤ 31
  cnt : count ≤ 5000
theorem Bnd.perm {rs rs' : List Rec} {c T : Nat} (h : Bnd rs c T) (hp : rs.Perm rs') : Bnd rs' c T := fun r hr => h r (hp.mem_iff.2 hr)
theorem Bnd.up {rs : List Rec} {c T c' T' : Nat} (h : Bnd rs c T) (h1 : c ≤ c') (h2 : T ≤ T') : Bnd rs c' T' := fun r hr => ⟨by have := (h r hr).1; omega, (h r hr).2.1, by have := (h r hr).2.2; omega⟩
/-- The zipper's innermost element, its record. -/
theorem fz_head {f : Fm} {fs : List Fm} {opn : List Nat} {rs : List Rec} (h : FZ (f :: fs) opn.reverse none rs) : ∃ b os av kv bs sub rest, opn = os ++ [b] ∧ rs = ⟨b, f.name, f.attrs, av, [], kv, bs⟩ :: (sub ++ rest) ∧ FR f.kids bs sub ∧ FZ fs os.reverse (some b) rest := by
  generalize hr : opn.reverse = ro at h
  cases h with
  | cons _ _ b os _ av kv bs sub rest h1 h2 =>
    refine ⟨b, os.reverse, av, kv, bs, sub, rest, ?_, by simp, h1, by simpa using h2⟩
    have := congrArg List.reverse hr
    simpa using this
theorem fz_put {f : Fm} {fs : List Fm} {b nb : Nat} {os : List Nat} {av kv kv' av' : Value} {bs : List Nat} {sub rest : List Rec} (h1 : FR f.kids bs sub) (h2 : FZ fs os.reverse (some b) rest) (name : Bs) (attrs : List At) (text : Bs) :
    ∃ rs', FZ ({ f with kids := f.kids ++ [.mk name attrs text []] } :: fs) (os ++ [b]).reverse none rs' ∧ (⟨b, f.name, f.attrs, av, [], kv', bs ++ [nb]⟩ :: ⟨nb, name, attrs, av', text, kv, []⟩ :: (sub ++ rest)).Perm rs' := by
  refine ⟨⟨b, f.name, f.attrs, av, [], kv', (bs ++ [nb]) ++ none.toList⟩ :: ((sub ++ ((⟨nb, name, attrs, av', text, kv, []⟩ :: []) ++ [])) ++ rest), ?_, ?_⟩
  · rw [List.reverse_append]
    exact .cons { f with kids := f.kids ++ [.mk name attrs text []] } fs b os.reverse none av kv' (bs ++ [nb]) _ rest (fr_app h1 (.cons _ _ _ _ _ _ (.mk name attrs text [] nb av' kv [] [] .nil) .nil)) h2
  · simp only [Option.toList_none, List.append_nil, List.append_assoc, List.cons_append, List.nil_append]
    refine List.Perm.cons _ ?_
    exact List.perm_middle.symm
theorem fr_snoc {ks : List Nd} {k : Nd} : ∀ {bs : List Nat} {sub : List Rec}, FR (ks ++ [k]) bs sub → ∃ bs1 b1 s1 s2, bs = bs1 ++ [b1] ∧ sub = s1 ++ s2 ∧ FR ks bs1 s1 ∧ TR k b1 s2 := by
  induction ks with
  | nil =>
    intro bs sub h
    cases h with
    | cons _ _ b bs s1 s2 ht hf => cases hf; exact ⟨[], b, [], s1, rfl, by simp, .nil, ht⟩
  | cons a ks ih =>
    intro bs sub h
    cases h with
    | cons _ _ b bs s1 s2 ht hf =>
      obtain ⟨bs1, b1, t1, t2, rfl, rfl, h1, h2⟩ := ih hf
      exact ⟨b :: bs1, b1, s1 ++ t1, t2, rfl, by simp, .cons _ _ _ _ _ _ ht h1, h2⟩
/-- put, as the zipper has it. -/
theorem put_z (B bb count T : Nat) (f : Fm) (fs : List Fm) (name : Bs) (attrs : List At) (av : Value) (text : Bs) (w : World) (h : ZAt w B bb (f :: fs) count T) (ha : RA w B av attrs) (hname : name.length ≤ 100000000) :
    Calls Tryz.prog 48 #[.pointer (some ⟨bb, 0, none⟩), .agg #[st name, av, st text, .slice none 0 0]] w fun e w' => (∃ v, e = .returned v) ∧ ZAt w' B bb (if count = 5000 then f :: fs else { f with kids := f.kids ++ [.mk name attrs text []] } :: fs) (if count = 5000 then count else count + 1) (T + text.length) ∧ Far B w w' := by
  obtain ⟨opn, rs, hb, hz, hbn⟩ := h.ex
  by_cases h5 : count = 5000
  · subst h5
    refine (put_full B bb opn rs name attrs av text w hb ha).mono ?_
    rintro e w' ⟨rfl, h1, h2⟩
    exact ⟨⟨_, rfl⟩, ⟨⟨opn, rs, h1, hz, hbn.up (Nat.le_refl _) (by omega)⟩, h.pos, h.len, h.cnt⟩, h2⟩
  · obtain ⟨b, os, av0, kv, bs, sub, rest, rfl, rfl, hf, hfz⟩ := fz_head hz
    have hol := fz_len hz
    have hol2 := h.len
    have hcl := h.cnt
    have hk0 := (hbn ⟨b, f.name, f.attrs, av0, [], kv, bs⟩ (by simp)).1
    refine (put_any B bb b count os _ (sub ++ rest) name attrs av text w hb rfl ha (by omega) (by simp at hol hol2; omega) (by simp only at hk0 ⊢; omega)).mono ?_
    rintro e w' ⟨nb, kv', rfl, h1, h2⟩
    obtain ⟨rs', h3, h4⟩ := fz_put (f := f) (fs := fs) (b := b) (nb := nb) (os := os) (av := av0) (kv := .slice none 0 0) (kv' := kv') (av' := av) hf hfz name attrs text
    rw [if_neg h5, if_neg h5]
    refine ⟨⟨_, rfl⟩, ⟨⟨os ++ [b], rs', h1.perm h4, h3, Bnd.perm ?_ h4⟩, by simp, by simpa using h.len, by omega⟩, h2⟩
    intro r hr
    rcases List.mem_cons.1 hr with rfl | hr
    · have := hbn ⟨b, f.name, f.attrs, av0, [], kv, bs⟩ (by simp)
      simp only at this
      exact ⟨by simp; omega, this.2.1, by simp⟩
    · rcases List.mem_cons.1 hr with rfl | hr
      · exact ⟨by simp, hname, by simp⟩
      · have := hbn r (by simp [List.mem_append.1 hr])
        exact ⟨by omega, this.2.1, by omega⟩
theorem ZAt.drewN {w : World} {B bb : Nat} {z : List Fm} {count T : Nat} (h : ZAt w B bb z count T) (n : Nat) : ZAt (w.drewN n) B bb z count T := by
  obtain ⟨opn, rs, hb, hz, hbn⟩ := h.ex
  exact ⟨⟨opn, rs, hb.below (below_drewN (Below.refl _ _) n), hz, hbn⟩, h.pos, h.len, h.cnt⟩
end Go.Proofs.YtdmmeinkligmcaaGreatDoor
