/- The open elements as a zipper; what the builder's steps do to it. -/
import Derived.Test.YtdmmeinkligmcaaGreatDoorT9
set_option linter.unusedVariables false
set_option maxRecDepth 100000
set_option maxHeartbeats 2000000
namespace Go.Proofs.YtdmmeinkligmcaaGreatDoor
open Go.RowKit

/-- An open element: its name, attributes, the kids that are shut. -/
structure Fm where
  name : Bs
  attrs : List At
  kids : List Nd
/-- The records of the open elements, the innermost first; c: the block of the one inside. -/
inductive FZ : List Fm → List Nat → Option Nat → List Rec → Prop
  | nil (c : Option Nat) : FZ [] [] c []
  | cons (f : Fm) (fs : List Fm) (b : Nat) (os : List Nat) (c : Option Nat) (av kv : Value) (bs : List Nat) (sub rest : List Rec) : FR f.kids bs sub → FZ fs os (some b) rest → FZ (f :: fs) (b :: os) c (⟨b, f.name, f.attrs, av, [], kv, bs ++ c.toList⟩ :: (sub ++ rest))
def putZ (x : Nd) : List Fm → List Fm
  | [] => []
  | f :: fs => { f with kids := f.kids ++ [x] } :: fs
def popZ : List Fm → List Fm
  | f :: g :: fs => { g with kids := g.kids ++ [.mk f.name f.attrs [] f.kids] } :: fs
  | z => z
/-- The innermost ones are shut until so many are open. -/
def popTo : Nat → List Fm → List Fm
  | 0, z => z
  | k + 1, z => popTo k (popZ z)
def namesZ (z : List Fm) : List Bs := (z.map (·.name)).reverse
theorem popZ_len (z : List Fm) (h : 2 ≤ z.length) : (popZ z).length + 1 = z.length := by
  match z, h with
  | f :: g :: fs, _ => rfl
theorem namesZ_pop (z : List Fm) (h : 2 ≤ z.length) : namesZ (popZ z) = (namesZ z).take (z.length - 1) := by
  match z, h with
  | f :: g :: fs, _ =>
    simp only [namesZ, popZ, List.map_cons, List.reverse_cons, List.length_cons]
    rw [List.take_append_of_le_length (by simp)]
    rw [List.take_of_length_le (by simp)]
theorem fz_len {z : List Fm} {os : List Nat} {c : Option Nat} {rs : List Rec} (h : FZ z os c rs) : os.length = z.length := by
  induction h with
  | nil => rfl
  | cons f fs b os c av kv bs sub rest h1 h2 ih => simp [ih]
theorem fz_pop {z : List Fm} {b : Nat} {os : List Nat} {rs : List Rec} (h : FZ z (b :: os) none rs) (h2 : 2 ≤ z.length) : ∃ rs', FZ (popZ z) os none rs' ∧ rs.Perm rs' := by
  cases h with
  | cons f fs _ _ _ av kv bs sub rest h3 h4 =>
    cases h4 with
    | nil => simp at h2
    | cons g fs b' os _ av' kv' bs' sub' rest' h5 h6 =>
      refine ⟨⟨b', g.name, g.attrs, av', [], kv', (bs' ++ [b]) ++ none.toList⟩ :: ((sub' ++ (⟨b, f.name, f.attrs, av, [], kv, bs⟩ :: sub ++ [])) ++ rest'), ?_, ?_⟩
      · exact .cons { g with kids := g.kids ++ [.mk f.name f.attrs [] f.kids] } fs b' os none av' kv' (bs' ++ [b]) _ rest' (fr_app h5 (.cons _ _ _ _ _ _ (.mk f.name f.attrs [] f.kids b av kv bs sub h3) .nil)) h6
      · simp only [Option.toList_none, List.append_nil, Option.toList_some]
        -- r_f :: (sub ++ (r_g :: (sub' ++ rest'))) ~ r_g :: ((sub' ++ (r_f :: sub)) ++ rest')
        rw [← List.cons_append]
        refine (List.perm_append_comm).trans ?_
        simp only [List.cons_append, List.append_assoc]
        refine List.Perm.cons _ (List.Perm.append_left _ ?_)
        have := (List.perm_append_comm : (rest' ++ (⟨b, f.name, f.attrs, av, [], kv, bs⟩ :: sub)).Perm _)
        simpa using this
theorem fz_popTo {n : Nat} : ∀ {z : List Fm} {os : List Nat} {rs : List Rec}, FZ z os none rs → n < z.length → ∃ rs', FZ (popTo n z) (os.drop n) none rs' ∧ rs.Perm rs' := by
  induction n with
  | zero => intro z os rs h _; exact ⟨rs, by simpa [popTo] using h, List.Perm.refl _⟩
  | succ n ih =>
    intro z os rs h hn
    have hl := fz_len h
    match os, hl, h with
    | b :: os, hl, h =>
      obtain ⟨rs1, h1, p1⟩ := fz_pop h (by omega)
      have hpl := popZ_len z (by omega)
      obtain ⟨rs2, h2, p2⟩ := ih h1 (by omega)
      exact ⟨rs2, by simpa [popTo] using h2, p1.trans p2⟩
    | [], hl, _ => simp at hl; omega
theorem namesZ_popTo : ∀ (n : Nat) (z : List Fm), n < z.length → namesZ (popTo n z) = (namesZ z).take (z.length - n) ∧ (popTo n z).length = z.length - n
  | 0, z, _ => ⟨by rw [popTo, List.take_of_length_le (by simp [namesZ])], rfl⟩
  | n + 1, z, h => by
    have h1 := popZ_len z (by omega)
    have h2 := namesZ_popTo n (popZ z) (by omega)
    refine ⟨?_, by rw [popTo, h2.2]; omega⟩
    rw [popTo, h2.1, namesZ_pop z (by omega), List.take_take]
    congr 1; omega
/-- Each open part's record, found by its place. -/
theorem fz_named {z : List Fm} {os : List Nat} {c : Option Nat} {rs : List Rec} (h : FZ z os c rs) : Named os.reverse (namesZ z) rs := by
  refine ⟨by simp [namesZ, fz_len h], fun i b hi => ?_⟩
  have key : ∀ {z : List Fm} {os : List Nat} {c : Option Nat} {rs : List Rec}, FZ z os c rs → ∀ (j b : Nat), os[j]? = some b → ∃ r, r ∈ rs ∧ r.blk = b ∧ (z.map (·.name))[j]? = some r.name := by
    intro z os c rs h
    induction h with
    | nil => intro j b hj; simp at hj
    | cons f fs b' os c av kv bs sub rest h1 h2 ih =>
      intro j b hj
      cases j with
      | zero => simp at hj; subst hj; exact ⟨⟨b', f.name, f.attrs, av, [], kv, bs ++ c.toList⟩, by simp, rfl, rfl⟩
      | succ j =>
        obtain ⟨r, hr, e1, e2⟩ := ih j b (by simpa using hj)
        exact ⟨r, by simp [hr], e1, by simpa using e2⟩
  have hil : i < os.length := by
    have := (List.getElem?_eq_some_iff.1 hi).1
    simpa using this
  have hj : os[os.length - 1 - i]? = some b := by rw [List.getElem?_reverse hil] at hi; exact hi
  obtain ⟨r, h1, h2, h3⟩ := key h _ b hj
  refine ⟨r, h1, h2, ?_⟩
  have hzl : (z.map (·.name)).length = os.length := by simp [fz_len h]
  rw [List.getD_eq_getElem?_getD, namesZ, List.getElem?_reverse (by rw [hzl]; exact hil), hzl, h3]; rfl
end Go.Proofs.YtdmmeinkligmcaaGreatDoor
