/- What every tree that is built keeps: texts, kids of void elements, depth, how many nodes. -/
import Derived.Test.YtdmmeinkligmcaaGreatDoorW1
import Derived.Test.YtdmmeinkligmcaaGreatDoorU2
set_option linter.unusedVariables false
set_option maxRecDepth 100000
set_option maxHeartbeats 2000000
namespace Go.Proofs.YtdmmeinkligmcaaGreatDoor

def nameN : Nd → Bs
  | .mk n _ _ _ => n
def nmOk (n : Bs) : Prop := n ≠ [] ∧ n.length ≤ 1000000
mutual
def okN : Nd → Prop
  | .mk n a t k => (n = [] → t ≠ [] ∧ k = [] ∧ a = []) ∧ (n ≠ [] → n.length ≤ 1000000 ∧ t = [] ∧ (k ≠ [] → voidB n = false)) ∧ okL k
def okL : List Nd → Prop
  | [] => True
  | x :: xs => okN x ∧ okL xs ∧ (nameN x = [] → ∀ y, xs.head? = some y → nameN y ≠ [])
end
theorem okL_snoc : ∀ (l : List Nd) (x : Nd), okL (l ++ [x]) ↔ okL l ∧ okN x ∧ (nameN x = [] → ∀ y, l.getLast? = some y → nameN y ≠ [])
  | [], x => by simp [okL]
  | [a], x => by
    simp only [List.cons_append, List.nil_append, okL, List.head?_cons, List.head?_nil, List.getLast?_singleton, Option.some.injEq]
    constructor
    · rintro ⟨h1, ⟨h2, _, _⟩, h4⟩
      exact ⟨⟨h1, trivial, fun _ y h => by cases h⟩, h2, fun hx y hy e => by subst hy; exact h4 e x rfl hx⟩
    · rintro ⟨⟨h1, _, _⟩, h2, h3⟩
      exact ⟨h1, ⟨h2, trivial, fun _ y h => by cases h⟩, fun ha y hy e => by subst hy; exact h3 e a rfl ha⟩
  | a :: b :: l, x => by
    have ih := okL_snoc (b :: l) x
    have e : okL (a :: b :: l ++ [x]) ↔ okN a ∧ okL (b :: l ++ [x]) ∧ (nameN a = [] → ∀ y, (b :: l ++ [x]).head? = some y → nameN y ≠ []) := Iff.rfl
    rw [e, ih]
    have e2 : okL (a :: b :: l) ↔ okN a ∧ okL (b :: l) ∧ (nameN a = [] → ∀ y, (b :: l).head? = some y → nameN y ≠ []) := Iff.rfl
    rw [e2]
    have e3 : (b :: l ++ [x]).head? = (b :: l).head? := rfl
    have e4 : (a :: b :: l).getLast? = (b :: l).getLast? := by simp [List.getLast?_cons]
    rw [e3, e4]
    constructor
    · rintro ⟨h1, ⟨h2, h3, h4⟩, h5⟩; exact ⟨⟨h1, h2, h5⟩, h3, h4⟩
    · rintro ⟨⟨h1, h2, h5⟩, h3, h4⟩; exact ⟨h1, ⟨h2, h3, h4⟩, h5⟩
theorem okL_get : ∀ (l : List Nd), okL l → ∀ (i : Nat) (x : Nd), l[i]? = some x → okN x ∧ (nameN x = [] → ∀ (j : Nat) (y : Nd), i = j + 1 → l[j]? = some y → nameN y ≠ [])
  | [], _, i, x, h => by simp at h
  | a :: l, h, 0, x, hx => by
    simp at hx; subst hx
    exact ⟨h.1, fun _ j y e => by omega⟩
  | a :: l, h, i + 1, x, hx => by
    have hx' : l[i]? = some x := by simpa using hx
    obtain ⟨h1, h2⟩ := okL_get l h.2.1 i x hx'
    refine ⟨h1, fun hn j y e hy => ?_⟩
    obtain rfl : j = i := by omega
    cases j with
    | zero =>
      simp at hy; subst hy
      intro e
      refine h.2.2 e x ?_ hn
      rw [List.head?_eq_getElem?]; exact hx'
    | succ j => exact h2 hn j y rfl (by simpa using hy)
/-- What the zipper keeps. -/
def okZ : List Fm → Prop
  | [] => False
  | [f] => okL f.kids ∧ depL f.kids ≤ 31
  | f :: g :: fs => nmOk f.name ∧ voidB f.name = false ∧ okL f.kids ∧ (g :: fs).length + depL f.kids ≤ 31 ∧ okZ (g :: fs)
def cntZ (z : List Fm) : Nat := (z.map (fun f => cntL f.kids)).sum + (z.length - 1)
theorem okZ_kids : ∀ (z : List Fm) (f : Fm) (fs : List Fm) (ks : List Nd), z = f :: fs → okZ z → okL ks → fs.length + depL ks ≤ 31 → okZ ({ f with kids := ks } :: fs)
  | _, f, [], ks, rfl, h, h1, h2 => ⟨h1, by simpa using h2⟩
  | _, f, g :: fs, ks, rfl, h, h1, h2 => ⟨h.1, h.2.1, h1, h2, h.2.2.2.2⟩
theorem okZ_head : ∀ (z : List Fm) (f : Fm) (fs : List Fm), z = f :: fs → okZ z → okL f.kids ∧ fs.length + depL f.kids ≤ 31
  | _, f, [], rfl, h => ⟨h.1, by simpa using h.2⟩
  | _, f, g :: fs, rfl, h => ⟨h.2.2.1, h.2.2.2.1⟩
theorem depL_snoc (l : List Nd) (n : Bs) (a : List At) (t : Bs) (k : List Nd) : depL (l ++ [.mk n a t k]) = max (depL l) (1 + depL k) := by rw [depL_app]; simp [depL, depN]
theorem cntL_snoc (l : List Nd) (n : Bs) (a : List At) (t : Bs) (k : List Nd) : cntL (l ++ [.mk n a t k]) = cntL l + 1 + cntL k := by rw [cntL_app]; simp [cntL, cntN]; omega
theorem popZ_ok : ∀ (z : List Fm), okZ z → okZ (popZ z) ∧ cntZ (popZ z) = cntZ z ∧ (popZ z).length ≤ z.length
  | [], h => h.elim
  | [f], h => ⟨h, rfl, Nat.le_refl _⟩
  | f :: g :: fs, h => by
    obtain ⟨h1, h2, h3, h4, h5⟩ := h
    obtain ⟨h6, h7⟩ := okZ_head _ g fs rfl h5
    refine ⟨?_, ?_, by simp [popZ]⟩
    · refine okZ_kids _ g fs (g.kids ++ [.mk f.name f.attrs [] f.kids]) rfl h5 ?_ ?_
      · rw [okL_snoc]
        exact ⟨h6, ⟨fun e => absurd e h1.1, fun _ => ⟨h1.2, rfl, fun _ => h2⟩, h3⟩, fun e => absurd e h1.1⟩
      · rw [depL_snoc]; simp only [List.length_cons] at h4; omega
    · simp only [cntZ, popZ, List.map_cons, List.sum_cons, List.length_cons, cntL_snoc]; omega
theorem popTo_ok : ∀ (n : Nat) (z : List Fm), okZ z → okZ (popTo n z) ∧ cntZ (popTo n z) = cntZ z ∧ (popTo n z).length ≤ z.length
  | 0, z, h => ⟨h, rfl, Nat.le_refl _⟩
  | n + 1, z, h => by
    obtain ⟨h1, h2, h3⟩ := popZ_ok z h
    obtain ⟨h4, h5, h6⟩ := popTo_ok n (popZ z) h1
    exact ⟨h4, h5.trans h2, Nat.le_trans h6 h3⟩
/-- The whole: the zipper and its count. -/
structure InvZ (p : List Fm × Nat) : Prop where
  ok : okZ p.1
  len : p.1.length ≤ 31
  cnt : cntZ p.1 = p.2
  le : p.2 ≤ 5000
theorem cntZ_kids (f : Fm) (fs : List Fm) (ks : List Nd) : cntZ ({ f with kids := ks } :: fs) + cntL f.kids = cntZ (f :: fs) + cntL ks := by
  simp only [cntZ, List.map_cons, List.sum_cons, List.length_cons]; omega
theorem charsZ_new (f : Fm) (fs : List Fm) (c : Nat) (t : Bs) (h : ∀ n a x k, f.kids.getLast? = some (.mk n a x k) → n ≠ []) : charsZ (f :: fs) c t = if c = 5000 then (f :: fs, c) else ({ f with kids := f.kids ++ [.mk [] [] t []] } :: fs, c + 1) := by
  unfold charsZ
  simp only
  split
  · rename_i heq; exact absurd rfl (h _ _ _ _ heq)
  · rfl
theorem charsZ_join (f : Fm) (fs : List Fm) (c : Nat) (t : Bs) (l : List Nd) (a : List At) (x : Bs) (k : List Nd) (h : f.kids = l ++ [.mk [] a x k]) : charsZ (f :: fs) c t = ({ f with kids := l ++ [.mk [] a (x ++ t) k] } :: fs, c) := by
  unfold charsZ
  simp [h]
theorem charsZ_ok (z : List Fm) (c : Nat) (t : Bs) (ht : t ≠ []) (h : InvZ (z, c)) : InvZ (charsZ z c t) ∧ (charsZ z c t).2 ≤ c + 1 := by
  obtain ⟨h1, h2, h3, h4⟩ := h
  match z, h1, h2, h3 with
  | [], h1, _, _ => exact h1.elim
  | f :: fs, h1, h2, h3 =>
    obtain ⟨k1, k2⟩ := okZ_head _ f fs rfl h1
    have hfl : fs.length ≤ 30 := by simp only [List.length_cons] at h2; omega
    have fresh : (∀ n a x k, f.kids.getLast? = some (.mk n a x k) → n ≠ []) → InvZ (charsZ (f :: fs) c t) ∧ (charsZ (f :: fs) c t).2 ≤ c + 1 := by
      intro hl
      rw [charsZ_new f fs c t hl]
      split
      · exact ⟨⟨h1, h2, h3, h4⟩, by simp⟩
      · rename_i h5
        refine ⟨⟨okZ_kids _ f fs _ rfl h1 ?_ ?_, by simpa using h2, ?_, by simp only; simp only at h4; omega⟩, by simp⟩
        · rw [okL_snoc]
          refine ⟨k1, ⟨fun _ => ⟨ht, rfl, rfl⟩, fun h => absurd rfl h, trivial⟩, fun _ y hy => ?_⟩
          obtain ⟨n, a, x, k⟩ := y
          exact hl n a x k hy
        · rw [depL_snoc]; simp [depL]; omega
        · have := cntZ_kids f fs (f.kids ++ [.mk [] [] t []])
          rw [cntL_snoc] at this
          simp [cntL] at this
          simp only at h3 ⊢; omega
    rcases List.eq_nil_or_concat f.kids with e | ⟨l, k, e⟩
    · exact fresh (fun n a x k h => by rw [e] at h; simp at h)
    · rw [List.concat_eq_append] at e
      obtain ⟨n, a, x, ks⟩ := k
      have kd : depL f.kids = max (depL l) (1 + depL ks) := by rw [e, depL_snoc]
      have kc : cntL f.kids = cntL l + 1 + cntL ks := by rw [e, cntL_snoc]
      by_cases hn : n = []
      · subst hn
        rw [charsZ_join f fs c t l a x ks e]
        rw [e, okL_snoc] at k1
        obtain ⟨m1, m2, m3⟩ := k1.2.1
        obtain ⟨q1, q2, q3⟩ := m1 rfl
        refine ⟨⟨okZ_kids _ f fs _ rfl h1 ?_ ?_, by simpa using h2, ?_, h4⟩, by simp⟩
        · rw [okL_snoc]
          exact ⟨k1.1, ⟨fun _ => ⟨by simp [q1], q2, q3⟩, fun h => absurd rfl h, m3⟩, fun _ => k1.2.2 rfl⟩
        · rw [depL_snoc]; omega
        · have := cntZ_kids f fs (l ++ [.mk [] a (x ++ t) ks])
          rw [cntL_snoc] at this
          simp only at h3 ⊢; omega
      · exact fresh (fun n' a' x' k' h => by
          rw [e] at h
          simp at h
          rw [← h.1]; exact hn)
theorem startZ_ok (z : List Fm) (c : Nat) (name : Bs) (attrs : List At) (hn : nmOk name) (h : InvZ (z, c)) : InvZ (startZ z c name attrs) ∧ (startZ z c name attrs).2 ≤ c + 1 := by
  obtain ⟨h1, h2, h3, h4⟩ := h
  have hz : 0 < z.length := by cases z with | nil => exact h1.elim | cons => simp
  obtain ⟨s1, s2⟩ := shutAllF_len (closesB name) (namesZ z).length (namesZ z) (by rw [namesZ_len]; exact hz)
  have s1' : 0 < (shutAll (closesB name) (namesZ z)).length := s1
  have s2' : (shutAll (closesB name) (namesZ z)).length ≤ z.length := by rw [← namesZ_len z]; exact s2
  obtain ⟨p1, p2, p3⟩ := popTo_ok (z.length - (shutAll (closesB name) (namesZ z)).length) z h1
  have pl := (namesZ_popTo (z.length - (shutAll (closesB name) (namesZ z)).length) z (by omega)).2
  unfold startZ
  generalize hk : (shutAll (closesB name) (namesZ z)).length = k at *
  split
  · exact ⟨⟨p1, by simp only at h2 ⊢; omega, by simp only at h3 ⊢; omega, h4⟩, by simp⟩
  · rename_i h5
    generalize popTo (z.length - k) z = z' at *
    match z', p1, p2, p3, pl with
    | [], p1, _, _, _ => exact p1.elim
    | f :: fs, p1, p2, p3, pl =>
      simp only
      obtain ⟨k1, k2⟩ := okZ_head _ f fs rfl p1
      simp only [List.length_cons] at pl p3
      split
      · rename_i h6
        simp only [Bool.and_eq_true, Bool.not_eq_true', decide_eq_true_eq] at h6
        refine ⟨⟨⟨hn, h6.1, trivial, by simp [depL]; omega, p1⟩, by simp; omega, ?_, by simp only; simp only at h4; omega⟩, by simp⟩
        have p2' : cntZ (f :: fs) = c := p2.trans h3
        simp only [cntZ, List.map_cons, List.sum_cons, List.length_cons, cntL] at p2' ⊢
        omega
      · refine ⟨⟨okZ_kids _ f fs _ rfl p1 ?_ ?_, by simp; simp only at h2; omega, ?_, by simp only; simp only at h4; omega⟩, by simp⟩
        · rw [okL_snoc]
          exact ⟨k1, ⟨fun e => absurd e hn.1, fun _ => ⟨hn.2, rfl, fun h => absurd rfl h⟩, trivial⟩, fun e => absurd e hn.1⟩
        · rw [depL_snoc]; simp [depL]; simp only at h2; omega
        · have := cntZ_kids f fs (f.kids ++ [.mk name attrs [] []])
          rw [cntL_snoc] at this
          simp [cntL] at this
          simp only at h3 ⊢; omega
theorem endZ_ok (z : List Fm) (c : Nat) (name : Bs) (h : InvZ (z, c)) : InvZ (endZ z name, c) := by
  obtain ⟨h1, h2, h3, h4⟩ := h
  unfold endZ
  split
  · obtain ⟨p1, p2, p3⟩ := popTo_ok (z.length - ‹Nat›) z h1
    exact ⟨p1, by simp only at h2 ⊢; omega, by simp only at h3 ⊢; omega, h4⟩
  · exact ⟨h1, h2, h3, h4⟩
/-- A token as the scan makes it. -/
def okT (t : Tk) : Prop := (t.kind = 1 → t.text ≠ []) ∧ (t.kind = 2 → nmOk t.name)
def w12 (t : Tk) : Nat := if t.kind = 1 ∨ t.kind = 2 then 1 else 0
def cnt12 (ts : List Tk) : Nat := (ts.map w12).sum
theorem stepZ_ok (p : List Fm × Nat) (t : Tk) (ht : okT t) (h : InvZ p) : InvZ (stepZ p t) ∧ (stepZ p t).2 ≤ p.2 + w12 t := by
  obtain ⟨z, c⟩ := p
  unfold stepZ w12
  split
  · rename_i h1
    rw [if_pos (Or.inl h1)]
    exact charsZ_ok z c t.text (ht.1 h1) h
  · split
    · rename_i h2
      rw [if_pos (Or.inr h2)]
      exact startZ_ok z c t.name t.attrs (ht.2 h2) h
    · split
      · exact ⟨endZ_ok z c t.name h, by simp⟩
      · exact ⟨h, by simp⟩
theorem fold_ok : ∀ (ts : List Tk) (p : List Fm × Nat), (∀ t, t ∈ ts → okT t) → InvZ p → InvZ (ts.foldl stepZ p) ∧ (ts.foldl stepZ p).2 ≤ p.2 + cnt12 ts
  | [], p, _, h => ⟨h, by simp [cnt12]⟩
  | t :: ts, p, ht, h => by
    obtain ⟨h1, h2⟩ := stepZ_ok p t (ht t (List.mem_cons_self ..)) h
    obtain ⟨h3, h4⟩ := fold_ok ts (stepZ p t) (fun q hq => ht q (List.mem_cons_of_mem _ hq)) h1
    refine ⟨h3, ?_⟩
    simp only [List.foldl_cons, cnt12, List.map_cons, List.sum_cons] at h4 ⊢
    omega
theorem root_ok (p : List Fm × Nat) (h : InvZ p) : okL (rootK (popTo (p.1.length - 1) p.1)) ∧ depL (rootK (popTo (p.1.length - 1) p.1)) ≤ 31 ∧ cntL (rootK (popTo (p.1.length - 1) p.1)) = p.2 := by
  obtain ⟨h1, h2, h3, h4⟩ := h
  have hz : 0 < p.1.length := by cases hp : p.1 with | nil => rw [hp] at h1; exact h1.elim | cons => simp
  obtain ⟨p1, p2, p3⟩ := popTo_ok (p.1.length - 1) p.1 h1
  have pl := (namesZ_popTo (p.1.length - 1) p.1 (by omega)).2
  generalize popTo (p.1.length - 1) p.1 = z' at *
  match z', p1, p2, pl with
  | [], p1, _, _ => exact p1.elim
  | [f], p1, p2, _ =>
    refine ⟨p1.1, p1.2, ?_⟩
    simp [cntZ] at p2
    show cntL f.kids = _
    simp [cntZ] at h3
    omega
  | f :: g :: fs, _, _, pl => simp at pl; omega
end Go.Proofs.YtdmmeinkligmcaaGreatDoor
