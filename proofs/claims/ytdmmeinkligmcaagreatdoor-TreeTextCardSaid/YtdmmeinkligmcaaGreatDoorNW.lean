/- Tokens that stand ahead change nothing of what follows; ends of elements that are not open. · What every tree that is built keeps: texts, kids of void elements, depth, how many nodes. · Items in a list, none of them ended: the tree of the document. · A document without a sign of a tag is one text; remarks change nothing. -/
import Derived.Test.YtdmmeinkligmcaaGreatDoorT14
import Derived.Test.YtdmmeinkligmcaaGreatDoorU2
set_option linter.unusedVariables false
set_option maxRecDepth 100000
set_option maxHeartbeats 2000000
namespace Go.Proofs.YtdmmeinkligmcaaGreatDoor

/-- The last token is no characters. -/
def Shut1 (pre : List Tk) : Prop := ∀ k, pre.getLast? = some k → k.kind ≠ 1
theorem charsK_pre (pre ts : List Tk) (t : Bs) (h : Shut1 pre) : charsK (pre ++ ts) t = pre ++ charsK ts t := by
  by_cases ht : t = []
  · subst ht; simp [charsK]
  rcases List.eq_nil_or_concat ts with e | ⟨l, k, e⟩
  · subst e
    rw [List.append_nil, charsK_none t ht]
    rcases List.eq_nil_or_concat pre with e | ⟨l, k, e⟩
    · subst e; rw [charsK_none t ht]; rfl
    · rw [List.concat_eq_append] at e
      subst e
      rw [charsK_new l k t ht (h k (by simp))]
  · rw [List.concat_eq_append] at e
    subst e
    by_cases hk : k.kind = 1
    · rw [← List.append_assoc, charsK_join (pre ++ l) k t ht hk, charsK_join l k t ht hk, List.append_assoc]
    · rw [← List.append_assoc, charsK_new (pre ++ l) k t ht hk, charsK_new l k t ht hk]
      simp
theorem commentS_pre (pre ts : List Tk) (s e : Bs) : commentS s e (pre ++ ts) = ((commentS s e ts).1, pre ++ (commentS s e ts).2) := by simp [commentS]
theorem remarkS_pre (pre ts : List Tk) (s : Bs) : remarkS s (pre ++ ts) = ((remarkS s ts).1, pre ++ (remarkS s ts).2) := by
  unfold remarkS
  split
  · simp
  · split
    · simp
    · exact commentS_pre _ _ _ _
theorem rawS_pre (pre ts : List Tk) (n r : Bs) (h : Shut1 pre) : rawS n r (pre ++ ts) = ((rawS n r ts).1, pre ++ (rawS n r ts).2) := by
  unfold rawS
  split
  · simp [charsK_pre pre ts _ h]
  · split <;> simp [charsK_pre pre ts _ h]
theorem tagS_pre (pre ts : List Tk) (k : Int) (s : Bs) (h : Shut1 pre) : tagS k s (pre ++ ts) = ((tagS k s ts).1, pre ++ (tagS k s ts).2) := by
  unfold tagS
  split
  · rfl
  · split
    · simp
    · split
      · rw [List.append_assoc, rawS_pre pre _ _ _ h]
      · simp
theorem markupS_pre (pre ts : List Tk) (r : Bs) (h : Shut1 pre) : markupS r (pre ++ ts) = ((markupS r ts).1, pre ++ (markupS r ts).2) := by
  unfold markupS
  split
  · split
    · split
      · split
        · exact tagS_pre _ _ _ _ h
        · split
          · rfl
          · exact commentS_pre _ _ _ _
      · rfl
    · split
      · split
        · exact remarkS_pre _ _ _
        · exact commentS_pre _ _ _ _
      · split
        · exact commentS_pre _ _ _ _
        · exact tagS_pre _ _ _ _ h
  · rfl
theorem scanF_pre (pre : List Tk) (h : Shut1 pre) : ∀ (f : Nat) (s : Bs) (ts : List Tk), scanF f s (pre ++ ts) = pre ++ scanF f s ts
  | 0, s, ts => rfl
  | f + 1, s, ts => by
    unfold scanF
    split
    · rfl
    · split
      · exact charsK_pre _ _ _ h
      · rw [charsK_pre _ _ _ h, markupS_pre _ _ _ h]
        exact scanF_pre pre h f _ _
/-- One step of the scan over markup. -/
theorem scanF_mark (f : Nat) (r : Bs) (ts : List Tk) (hb : beginsB r = true) : scanF (f + 1) r ts = scanF f (markupS r ts).1 (markupS r ts).2 := by
  have h0 : headN r = 0 := by
    cases r with
    | nil => rfl
    | cons c r => unfold headN; rw [if_pos hb]
  have hne : r ≠ [] := by intro e; subst e; simp [beginsB] at hb
  have hd : decodeL [] = [] := rfl
  rw [scanF, if_neg hne, h0]
  simp only [List.drop_zero, List.take_zero, hd]
  rw [if_neg hne]
  have hc : charsK ts [] = ts := by simp [charsK]
  rw [hc]
theorem build_mark (r : Bs) (hb : beginsB r = true) (hl : (markupS r []).1.length + 1 ≤ r.length) (hs : Shut1 (markupS r []).2) : scanL r = (markupS r []).2 ++ scanL (markupS r []).1 := by
  have h1 := scanF_mark r.length r [] hb
  unfold scanL
  rw [h1]
  have h2 := scanF_pre (markupS r []).2 hs r.length (markupS r []).1 []
  rw [List.append_nil] at h2
  rw [h2]
  congr 1
  exact scanF_more _ _ _ _ (by omega) (by omega)
def endB : Bs := [60, 47, 98, 62]
def endP : Bs := [60, 47, 112, 62]
def endDiv : Bs := [60, 47, 100, 105, 118, 62]
def endX : Bs := [60, 47, 120, 62]
theorem mark_b (s : Bs) : markupS (endB ++ s) [] = (s, [⟨3, [98], [], []⟩]) := rfl
theorem mark_p (s : Bs) : markupS (endP ++ s) [] = (s, [⟨3, [112], [], []⟩]) := rfl
theorem mark_div (s : Bs) : markupS (endDiv ++ s) [] = (s, [⟨3, [100, 105, 118], [], []⟩]) := rfl
theorem mark_x (s : Bs) : markupS (endX ++ s) [] = (s, [⟨3, [120], [], []⟩]) := rfl
theorem scan_end_tag (e n s : Bs) (hb : beginsB (e ++ s) = true) (hm : markupS (e ++ s) [] = (s, [⟨3, n, [], []⟩])) (he : 1 ≤ e.length) : scanL (e ++ s) = ⟨3, n, [], []⟩ :: scanL s := by
  have := build_mark (e ++ s) hb (by rw [hm]; simp; omega) (by rw [hm]; intro k hk; simp at hk; subst hk; show (3 : Int) ≠ 1; decide)
  rw [this, hm]; rfl
theorem scan_ends (s : Bs) : scanL (endB ++ (endP ++ (endDiv ++ (endX ++ s)))) = [⟨3, [98], [], []⟩, ⟨3, [112], [], []⟩, ⟨3, [100, 105, 118], [], []⟩, ⟨3, [120], [], []⟩] ++ scanL s := by
  rw [scan_end_tag endB [98] _ rfl (mark_b _) (by decide), scan_end_tag endP [112] _ rfl (mark_p _) (by decide), scan_end_tag endDiv [100, 105, 118] _ rfl (mark_div _) (by decide), scan_end_tag endX [120] _ rfl (mark_x _) (by decide)]
  rfl
theorem buildZ_app (a b : List Tk) : buildZ (a ++ b) = b.foldl stepZ (buildZ a) := by simp [buildZ, List.foldl_append]
theorem build_ends (s : Bs) : buildL (endB ++ (endP ++ (endDiv ++ (endX ++ s)))) = buildL s := by
  unfold buildL
  rw [scan_ends, buildZ_app]
  rfl
end Go.Proofs.YtdmmeinkligmcaaGreatDoor
set_option linter.unusedVariables false
set_option maxRecDepth 100000
set_option maxHeartbeats 2000000
namespace Go.Proofs.YtdmmeinkligmcaaGreatDoor

def nameN : Nd → Bs
  | .mk n _ _ _ => n
def nmOk (n : Bs) : Prop := n ≠ [] ∧ n.length ≤ 1000000
mutual
def okN : Nd → Prop
  | .mk n a t k => (n = [] → t ≠ [] ∧ k = [] ∧ a = []) ∧ (n ≠ [] → n.length ≤ 1000000 ∧ t = [] ∧ (k ≠ [] → voidB n = false)) ∧ okL k
def okL : List Nd → Prop
  | [] => True
  | x :: xs => okN x ∧ okL xs ∧ (nameN x = [] → ∀ y, xs.head? = some y → nameN y ≠ [])
end
theorem okL_snoc : ∀ (l : List Nd) (x : Nd), okL (l ++ [x]) ↔ okL l ∧ okN x ∧ (nameN x = [] → ∀ y, l.getLast? = some y → nameN y ≠ [])
  | [], x => by simp [okL]
  | [a], x => by
    simp only [List.cons_append, List.nil_append, okL, List.head?_cons, List.head?_nil, List.getLast?_singleton, Option.some.injEq]
    constructor
    · rintro ⟨h1, ⟨h2, _, _⟩, h4⟩
      exact ⟨⟨h1, trivial, fun _ y h => by cases h⟩, h2, fun hx y hy e => by subst hy; exact h4 e x rfl hx⟩
    · rintro ⟨⟨h1, _, _⟩, h2, h3⟩
      exact ⟨h1, ⟨h2, trivial, fun _ y h => by cases h⟩, fun ha y hy e => by subst hy; exact h3 e a rfl ha⟩
  | a :: b :: l, x => by
    have ih := okL_snoc (b :: l) x
    have e : okL (a :: b :: l ++ [x]) ↔ okN a ∧ okL (b :: l ++ [x]) ∧ (nameN a = [] → ∀ y, (b :: l ++ [x]).head? = some y → nameN y ≠ []) := Iff.rfl
    rw [e, ih]
    have e2 : okL (a :: b :: l) ↔ okN a ∧ okL (b :: l) ∧ (nameN a = [] → ∀ y, (b :: l).head? = some y → nameN y ≠ []) := Iff.rfl
    rw [e2]
    have e3 : (b :: l ++ [x]).head? = (b :: l).head? := rfl
    have e4 : (a :: b :: l).getLast? = (b :: l).getLast? := by simp [List.getLast?_cons]
    rw [e3, e4]
    constructor
    · rintro ⟨h1, ⟨h2, h3, h4⟩, h5⟩; exact ⟨⟨h1, h2, h5⟩, h3, h4⟩
    · rintro ⟨⟨h1, h2, h5⟩, h3, h4⟩; exact ⟨h1, ⟨h2, h3, h4⟩, h5⟩
theorem okL_get : ∀ (l : List Nd), okL l → ∀ (i : Nat) (x : Nd), l[i]? = some x → okN x ∧ (nameN x = [] → ∀ (j : Nat) (y : Nd), i = j + 1 → l[j]? = some y → nameN y ≠ [])
  | [], _, i, x, h => by simp at h
  | a :: l, h, 0, x, hx => by
    simp at hx; subst hx
    exact ⟨h.1, fun _ j y e => by omega⟩
  | a :: l, h, i + 1, x, hx => by
    have hx' : l[i]? = some x := by simpa using hx
    obtain ⟨h1, h2⟩ := okL_get l h.2.1 i x hx'
    refine ⟨h1, fun hn j y e hy => ?_⟩
    obtain rfl : j = i := by omega
    cases j with
    | zero =>
      simp at hy; subst hy
      intro e
      refine h.2.2 e x ?_ hn
      rw [List.head?_eq_getElem?]; exact hx'
    | succ j => exact h2 hn j y rfl (by simpa using hy)
/-- What the zipper keeps. -/
def okZ : List Fm → Prop
  | [] => False
  | [f] => okL f.kids ∧ depL f.kids ≤ 31
  | f :: g :: fs => nmOk f.name ∧ voidB f.name = false ∧ okL f.kids ∧ (g :: fs).length + depL f.kids ≤ 31 ∧ okZ (g :: fs)
def cntZ (z : List Fm) : Nat := (z.map (fun f => cntL f.kids)).sum + (z.length - 1)
theorem okZ_kids : ∀ (z : List Fm) (f : Fm) (fs : List Fm) (ks : List Nd), z = f :: fs → okZ z → okL ks → fs.length + depL ks ≤ 31 → okZ ({ f with kids := ks } :: fs)
  | _, f, [], ks, rfl, h, h1, h2 => ⟨h1, by simpa using h2⟩
  | _, f, g :: fs, ks, rfl, h, h1, h2 => ⟨h.1, h.2.1, h1, h2, h.2.2.2.2⟩
theorem okZ_head : ∀ (z : List Fm) (f : Fm) (fs : List Fm), z = f :: fs → okZ z → okL f.kids ∧ fs.length + depL f.kids ≤ 31
  | _, f, [], rfl, h => ⟨h.1, by simpa using h.2⟩
  | _, f, g :: fs, rfl, h => ⟨h.2.2.1, h.2.2.2.1⟩
theorem depL_snoc (l : List Nd) (n : Bs) (a : List At) (t : Bs) (k : List Nd) : depL (l ++ [.mk n a t k]) = max (depL l) (1 + depL k) := by rw [depL_app]; simp [depL, depN]
theorem cntL_snoc (l : List Nd) (n : Bs) (a : List At) (t : Bs) (k : List Nd) : cntL (l ++ [.mk n a t k]) = cntL l + 1 + cntL k := by rw [cntL_app]; simp [cntL, cntN]; omega
theorem popZ_ok : ∀ (z : List Fm), okZ z → okZ (popZ z) ∧ cntZ (popZ z) = cntZ z ∧ (popZ z).length ≤ z.length
  | [], h => h.elim
  | [f], h => ⟨h, rfl, Nat.le_refl _⟩
  | f :: g :: fs, h => by
    obtain ⟨h1, h2, h3, h4, h5⟩ := h
    obtain ⟨h6, h7⟩ := okZ_head _ g fs rfl h5
    refine ⟨?_, ?_, by simp [popZ]⟩
    · refine okZ_kids _ g fs (g.kids ++ [.mk f.name f.attrs [] f.kids]) rfl h5 ?_ ?_
      · rw [okL_snoc]
        exact ⟨h6, ⟨fun e => absurd e h1.1, fun _ => ⟨h1.2, rfl, fun _ => h2⟩, h3⟩, fun e => absurd e h1.1⟩
      · rw [depL_snoc]; simp only [List.length_cons] at h4; omega
    · simp only [cntZ, popZ, List.map_cons, List.sum_cons, List.length_cons, cntL_snoc]; omega
theorem popTo_ok : ∀ (n : Nat) (z : List Fm), okZ z → okZ (popTo n z) ∧ cntZ (popTo n z) = cntZ z ∧ (popTo n z).length ≤ z.length
  | 0, z, h => ⟨h, rfl, Nat.le_refl _⟩
  | n + 1, z, h => by
    obtain ⟨h1, h2, h3⟩ := popZ_ok z h
    obtain ⟨h4, h5, h6⟩ := popTo_ok n (popZ z) h1
    exact ⟨h4, h5.trans h2, Nat.le_trans h6 h3⟩
/-- The whole: the zipper and its count. -/
structure InvZ (p : List Fm × Nat) : Prop where
  ok : okZ p.1
  len : p.1.length ≤ 31
  cnt : cntZ p.1 = p.2
  le : p.2 ≤ 5000
theorem cntZ_kids (f : Fm) (fs : List Fm) (ks : List Nd) : cntZ ({ f with kids := ks } :: fs) + cntL f.kids = cntZ (f :: fs) + cntL ks := by
  simp only [cntZ, List.map_cons, List.sum_cons, List.length_cons]; omega
theorem charsZ_new (f : Fm) (fs : List Fm) (c : Nat) (t : Bs) (h : ∀ n a x k, f.kids.getLast? = some (.mk n a x k) → n ≠ []) : charsZ (f :: fs) c t = if c = 5000 then (f :: fs, c) else ({ f with kids := f.kids ++ [.mk [] [] t []] } :: fs, c + 1) := by
  unfold charsZ
  simp only
  split
  · rename_i heq; exact absurd rfl (h _ _ _ _ heq)
  · rfl
theorem charsZ_join (f : Fm) (fs : List Fm) (c : Nat) (t : Bs) (l : List Nd) (a : List At) (x : Bs) (k : List Nd) (h : f.kids = l ++ [.mk [] a x k]) : charsZ (f :: fs) c t = ({ f with kids := l ++ [.mk [] a (x ++ t) k] } :: fs, c) := by
  unfold charsZ
  simp [h]
theorem charsZ_ok (z : List Fm) (c : Nat) (t : Bs) (ht : t ≠ []) (h : InvZ (z, c)) : InvZ (charsZ z c t) ∧ (charsZ z c t).2 ≤ c + 1 := by
  obtain ⟨h1, h2, h3, h4⟩ := h
  match z, h1, h2, h3 with
  | [], h1, _, _ => exact h1.elim
  | f :: fs, h1, h2, h3 =>
    obtain ⟨k1, k2⟩ := okZ_head _ f fs rfl h1
    have hfl : fs.length ≤ 30 := by simp only [List.length_cons] at h2; omega
    have fresh : (∀ n a x k, f.kids.getLast? = some (.mk n a x k) → n ≠ []) → InvZ (charsZ (f :: fs) c t) ∧ (charsZ (f :: fs) c t).2 ≤ c + 1 := by
      intro hl
      rw [charsZ_new f fs c t hl]
      split
      · exact ⟨⟨h1, h2, h3, h4⟩, by simp⟩
      · rename_i h5
        refine ⟨⟨okZ_kids _ f fs _ rfl h1 ?_ ?_, by simpa using h2, ?_, by simp only; simp only at h4; omega⟩, by simp⟩
        · rw [okL_snoc]
          refine ⟨k1, ⟨fun _ => ⟨ht, rfl, rfl⟩, fun h => absurd rfl h, trivial⟩, fun _ y hy => ?_⟩
          obtain ⟨n, a, x, k⟩ := y
          exact hl n a x k hy
        · rw [depL_snoc]; simp [depL]; omega
        · have := cntZ_kids f fs (f.kids ++ [.mk [] [] t []])
          rw [cntL_snoc] at this
          simp [cntL] at this
          simp only at h3 ⊢; omega
    rcases List.eq_nil_or_concat f.kids with e | ⟨l, k, e⟩
    · exact fresh (fun n a x k h => by rw [e] at h; simp at h)
    · rw [List.concat_eq_append] at e
      obtain ⟨n, a, x, ks⟩ := k
      have kd : depL f.kids = max (depL l) (1 + depL ks) := by rw [e, depL_snoc]
      have kc : cntL f.kids = cntL l + 1 + cntL ks := by rw [e, cntL_snoc]
      by_cases hn : n = []
      · subst hn
        rw [charsZ_join f fs c t l a x ks e]
        rw [e, okL_snoc] at k1
        obtain ⟨m1, m2, m3⟩ := k1.2.1
        obtain ⟨q1, q2, q3⟩ := m1 rfl
        refine ⟨⟨okZ_kids _ f fs _ rfl h1 ?_ ?_, by simpa using h2, ?_, h4⟩, by simp⟩
        · rw [okL_snoc]
          exact ⟨k1.1, ⟨fun _ => ⟨by simp [q1], q2, q3⟩, fun h => absurd rfl h, m3⟩, fun _ => k1.2.2 rfl⟩
        · rw [depL_snoc]; omega
        · have := cntZ_kids f fs (l ++ [.mk [] a (x ++ t) ks])
          rw [cntL_snoc] at this
          simp only at h3 ⊢; omega
      · exact fresh (fun n' a' x' k' h => by
          rw [e] at h
          simp at h
          rw [← h.1]; exact hn)
theorem startZ_ok (z : List Fm) (c : Nat) (name : Bs) (attrs : List At) (hn : nmOk name) (h : InvZ (z, c)) : InvZ (startZ z c name attrs) ∧ (startZ z c name attrs).2 ≤ c + 1 := by
  obtain ⟨h1, h2, h3, h4⟩ := h
  have hz : 0 < z.length := by cases z with | nil => exact h1.elim | cons => simp
  obtain ⟨s1, s2⟩ := shutAllF_len (closesB name) (namesZ z).length (namesZ z) (by rw [namesZ_len]; exact hz)
  have s1' : 0 < (shutAll (closesB name) (namesZ z)).length := s1
  have s2' : (shutAll (closesB name) (namesZ z)).length ≤ z.length := by rw [← namesZ_len z]; exact s2
  obtain ⟨p1, p2, p3⟩ := popTo_ok (z.length - (shutAll (closesB name) (namesZ z)).length) z h1
  have pl := (namesZ_popTo (z.length - (shutAll (closesB name) (namesZ z)).length) z (by omega)).2
  unfold startZ
  generalize hk : (shutAll (closesB name) (namesZ z)).length = k at *
  split
  · exact ⟨⟨p1, by simp only at h2 ⊢; omega, by simp only at h3 ⊢; omega, h4⟩, by simp⟩
  · rename_i h5
    generalize popTo (z.length - k) z = z' at *
    match z', p1, p2, p3, pl with
    | [], p1, _, _, _ => exact p1.elim
    | f :: fs, p1, p2, p3, pl =>
      simp only
      obtain ⟨k1, k2⟩ := okZ_head _ f fs rfl p1
      simp only [List.length_cons] at pl p3
      split
      · rename_i h6
        simp only [Bool.and_eq_true, Bool.not_eq_true', decide_eq_true_eq] at h6
        refine ⟨⟨⟨hn, h6.1, trivial, by simp [depL]; omega, p1⟩, by simp; omega, ?_, by simp only; simp only at h4; omega⟩, by simp⟩
        have p2' : cntZ (f :: fs) = c := p2.trans h3
        simp only [cntZ, List.map_cons, List.sum_cons, List.length_cons, cntL] at p2' ⊢
        omega
      · refine ⟨⟨okZ_kids _ f fs _ rfl p1 ?_ ?_, by simp; simp only at h2; omega, ?_, by simp only; simp only at h4; omega⟩, by simp⟩
        · rw [okL_snoc]
          exact ⟨k1, ⟨fun e => absurd e hn.1, fun _ => ⟨hn.2, rfl, fun h => absurd rfl h⟩, trivial⟩, fun e => absurd e hn.1⟩
        · rw [depL_snoc]; simp [depL]; simp only at h2; omega
        · have := cntZ_kids f fs (f.kids ++ [.mk name attrs [] []])
          rw [cntL_snoc] at this
          simp [cntL] at this
          simp only at h3 ⊢; omega
theorem endZ_ok (z : List Fm) (c : Nat) (name : Bs) (h : InvZ (z, c)) : InvZ (endZ z name, c) := by
  obtain ⟨h1, h2, h3, h4⟩ := h
  unfold endZ
  split
  · obtain ⟨p1, p2, p3⟩ := popTo_ok (z.length - ‹Nat›) z h1
    exact ⟨p1, by simp only at h2 ⊢; omega, by simp only at h3 ⊢; omega, h4⟩
  · exact ⟨h1, h2, h3, h4⟩
/-- A token as the scan makes it. -/
def okT (t : Tk) : Prop := (t.kind = 1 → t.text ≠ []) ∧ (t.kind = 2 → nmOk t.name)
def w12 (t : Tk) : Nat := if t.kind = 1 ∨ t.kind = 2 then 1 else 0
def cnt12 (ts : List Tk) : Nat := (ts.map w12).sum
theorem stepZ_ok (p : List Fm × Nat) (t : Tk) (ht : okT t) (h : InvZ p) : InvZ (stepZ p t) ∧ (stepZ p t).2 ≤ p.2 + w12 t := by
  obtain ⟨z, c⟩ := p
  unfold stepZ w12
  split
  · rename_i h1
    rw [if_pos (Or.inl h1)]
    exact charsZ_ok z c t.text (ht.1 h1) h
  · split
    · rename_i h2
      rw [if_pos (Or.inr h2)]
      exact startZ_ok z c t.name t.attrs (ht.2 h2) h
    · split
      · exact ⟨endZ_ok z c t.name h, by simp⟩
      · exact ⟨h, by simp⟩
theorem fold_ok : ∀ (ts : List Tk) (p : List Fm × Nat), (∀ t, t ∈ ts → okT t) → InvZ p → InvZ (ts.foldl stepZ p) ∧ (ts.foldl stepZ p).2 ≤ p.2 + cnt12 ts
  | [], p, _, h => ⟨h, by simp [cnt12]⟩
  | t :: ts, p, ht, h => by
    obtain ⟨h1, h2⟩ := stepZ_ok p t (ht t (List.mem_cons_self ..)) h
    obtain ⟨h3, h4⟩ := fold_ok ts (stepZ p t) (fun q hq => ht q (List.mem_cons_of_mem _ hq)) h1
    refine ⟨h3, ?_⟩
    simp only [List.foldl_cons, cnt12, List.map_cons, List.sum_cons] at h4 ⊢
    omega
theorem root_ok (p : List Fm × Nat) (h : InvZ p) : okL (rootK (popTo (p.1.length - 1) p.1)) ∧ depL (rootK (popTo (p.1.length - 1) p.1)) ≤ 31 ∧ cntL (rootK (popTo (p.1.length - 1) p.1)) = p.2 := by
  obtain ⟨h1, h2, h3, h4⟩ := h
  have hz : 0 < p.1.length := by cases hp : p.1 with | nil => rw [hp] at h1; exact h1.elim | cons => simp
  obtain ⟨p1, p2, p3⟩ := popTo_ok (p.1.length - 1) p.1 h1
  have pl := (namesZ_popTo (p.1.length - 1) p.1 (by omega)).2
  generalize popTo (p.1.length - 1) p.1 = z' at *
  match z', p1, p2, pl with
  | [], p1, _, _ => exact p1.elim
  | [f], p1, p2, _ =>
    refine ⟨p1.1, p1.2, ?_⟩
    simp [cntZ] at p2
    show cntL f.kids = _
    simp [cntZ] at h3
    omega
  | f :: g :: fs, _, _, pl => simp at pl; omega
end Go.Proofs.YtdmmeinkligmcaaGreatDoor
set_option linter.unusedVariables false
set_option maxRecDepth 100000
set_option maxHeartbeats 2000000
namespace Go.Proofs.YtdmmeinkligmcaaGreatDoor

def ulB : Bs := [60, 117, 108, 62]
def liB : Bs := [60, 108, 105, 62]
def endUlB : Bs := [60, 47, 117, 108, 62]
/-- The rest of the document: so many items, the end. -/
def itemsB : Nat → Bs
  | 0 => endUlB ++ [121]
  | n + 1 => liB ++ 120 :: itemsB n
/-- The text that the law writes in its loop. -/
def repB : Nat → Bs
  | 0 => ulB
  | n + 1 => repB n ++ (liB ++ [120])
theorem repB_items : ∀ (n k : Nat), repB n ++ itemsB k = ulB ++ itemsB (n + k)
  | 0, k => by simp [repB]
  | n + 1, k => by
    have := repB_items n (k + 1)
    rw [show n + 1 + k = n + (k + 1) by omega, ← this]
    simp [repB, itemsB]
def ulK : Tk := ⟨2, [117, 108], [], []⟩
def liK : Tk := ⟨2, [108, 105], [], []⟩
def xK : Tk := ⟨1, [], [], [120]⟩
def yK : Tk := ⟨1, [], [], [121]⟩
def endUlK : Tk := ⟨3, [117, 108], [], []⟩
theorem mark_ul (s : Bs) (ts : List Tk) : markupS (ulB ++ s) ts = (s, ts ++ [ulK]) := rfl
theorem mark_li (s : Bs) (ts : List Tk) : markupS (liB ++ s) ts = (s, ts ++ [liK]) := rfl
theorem mark_endUl (s : Bs) (ts : List Tk) : markupS (endUlB ++ s) ts = (s, ts ++ [endUlK]) := rfl
theorem scanL_tag (e s : Bs) (k : Tk) (hb : beginsB (e ++ s) = true) (hm : markupS (e ++ s) [] = (s, [k])) (hk : k.kind ≠ 1) (he : 1 ≤ e.length) : scanL (e ++ s) = k :: scanL s := by
  have := build_mark (e ++ s) hb (by rw [hm]; simp; omega) (by rw [hm]; intro q hq; simp at hq; subst hq; exact hk)
  rw [this, hm]; rfl
theorem scanL_x (e s : Bs) (k : Tk) (hb0 : beginsB (120 :: (e ++ s)) = false) (hb : beginsB (e ++ s) = true) (hm : ∀ ts, markupS (e ++ s) ts = (s, ts ++ [k])) (hk : k.kind ≠ 1) (he : 1 ≤ e.length) : scanL (120 :: (e ++ s)) = xK :: scanL (e ++ s) := by
  rw [scanL_tag e s k hb (hm []) hk he]
  have h0 : headN (e ++ s) = 0 := by
    match h : e ++ s with
    | [] => rfl
    | c :: r => unfold headN; rw [if_pos (by rw [← h]; exact hb)]
  have h1 : headN (120 :: (e ++ s)) = 1 := by unfold headN; rw [if_neg (by rw [hb0]; decide), h0]
  have hne : e ++ s ≠ [] := by intro h; have h2 := (List.append_eq_nil_iff.1 h).1; subst h2; simp at he
  unfold scanL
  rw [scanF, if_neg (by simp), h1]
  simp only [List.drop_succ_cons, List.drop_zero, List.take_succ_cons, List.take_zero]
  rw [if_neg hne, show charsK [] (decodeL [120]) = [xK] from rfl, hm]
  have h2 := scanF_pre ([xK] ++ [k]) (fun q hq => by simp at hq; subst hq; exact hk) (120 :: (e ++ s)).length s []
  rw [List.append_nil] at h2
  rw [h2]
  show xK :: k :: _ = _
  congr 2
  exact scanF_more _ _ _ _ (by simp; omega) (by omega)
theorem scan_items : ∀ (n : Nat), scanL (itemsB n) = (List.replicate n [liK, xK]).flatten ++ [endUlK, yK]
  | 0 => by rfl
  | n + 1 => by
    have h1 : scanL (itemsB (n + 1)) = liK :: scanL (120 :: itemsB n) := scanL_tag liB (120 :: itemsB n) liK rfl (mark_li _ _) (by decide) (by decide)
    have h2 : scanL (120 :: itemsB n) = xK :: scanL (itemsB n) := by
      cases n with
      | zero => exact scanL_x endUlB [121] endUlK rfl rfl (fun ts => mark_endUl _ ts) (by decide) (by decide)
      | succ n => exact scanL_x liB (120 :: itemsB n) liK rfl rfl (fun ts => mark_li _ ts) (by decide) (by decide)
    rw [h1, h2, scan_items n]
    simp [List.replicate_succ]
theorem scan_list (n : Nat) : scanL (ulB ++ itemsB n) = ulK :: ((List.replicate n [liK, xK]).flatten ++ [endUlK, yK]) := by
  rw [scanL_tag ulB (itemsB n) ulK rfl (mark_ul _ _) (by decide) (by decide), scan_items n]
def ulF (ks : List Nd) : Fm := ⟨[117, 108], [], ks⟩
def liF : Fm := ⟨[108, 105], [], [.mk [] [] [120] []]⟩
def rootF (ks : List Nd) : Fm := ⟨[], [], ks⟩
def liN : Nd := .mk [108, 105] [] [] [.mk [] [] [120] []]
theorem stepZ_start (p : List Fm × Nat) (t : Tk) (h : t.kind = 2) : stepZ p t = startZ p.1 p.2 t.name t.attrs := by
  unfold stepZ; rw [if_neg (by omega), if_pos h]
theorem stepZ_chars (p : List Fm × Nat) (t : Tk) (h : t.kind = 1) : stepZ p t = charsZ p.1 p.2 t.text := by
  unfold stepZ; rw [if_pos h]
theorem stepZ_end (p : List Fm × Nat) (t : Tk) (h : t.kind = 3) : stepZ p t = (endZ p.1 t.name, p.2) := by
  unfold stepZ; rw [if_neg (by omega), if_neg (by omega), if_pos h]
theorem startZ_push (z : List Fm) (c : Nat) (name : Bs) (attrs : List At) (ns : List Bs) (k : Nat) (f : Fm) (fs : List Fm) (hc : c ≠ 5000) (hn : namesZ z = ns) (hk : (shutAll (closesB name) ns).length = k) (hp : popTo (z.length - k) z = f :: fs) (hv : voidB name = false) (h30 : k ≤ 30) : startZ z c name attrs = (⟨name, attrs, []⟩ :: f :: fs, c + 1) := by
  unfold startZ
  rw [if_neg hc, hn, hk, hp]
  simp [hv, h30]
theorem endZ_at (z : List Fm) (name : Bs) (ns : List Bs) (i : Nat) (hn : namesZ z = ns) (hi : shutI (fun n => n == name) ns (z.length - 1) = some i) : endZ z name = popTo (z.length - i) z := by
  unfold endZ
  rw [hn, hi]
theorem charsZ_fresh (f : Fm) (fs : List Fm) (c : Nat) (t : Bs) (hc : c ≠ 5000) (h : ∀ n a x k, f.kids.getLast? = some (.mk n a x k) → n ≠ []) : charsZ (f :: fs) c t = ({ f with kids := f.kids ++ [.mk [] [] t []] } :: fs, c + 1) := by
  rw [charsZ_new f fs c t h, if_neg hc]
theorem step_ul : stepZ ([rootF []], 0) ulK = ([ulF [], rootF []], 1) := by
  rw [stepZ_start _ _ rfl]
  exact startZ_push _ _ _ _ [[]] 1 (rootF []) [] (by decide) rfl (by decide) rfl (by decide) (by decide)
theorem step_x (fs : List Fm) (c : Nat) (hc : c < 4000) : stepZ (⟨[108, 105], [], []⟩ :: fs, c) xK = (liF :: fs, c + 1) := by
  rw [stepZ_chars _ _ rfl]
  exact charsZ_fresh _ _ _ _ (by show c ≠ 5000; omega) (fun n a x k h => by simp at h)
theorem step_li0 (c : Nat) (hc : c < 3000) : stepZ (stepZ ([ulF [], rootF []], c) liK) xK = ([liF, ulF [], rootF []], c + 2) := by
  have h1 : stepZ ([ulF [], rootF []], c) liK = (⟨[108, 105], [], []⟩ :: [ulF [], rootF []], c + 1) := by
    rw [stepZ_start _ _ rfl]
    exact startZ_push _ _ _ _ [[], [117, 108]] 2 (ulF []) [rootF []] (by show c ≠ 5000; omega) rfl (by decide) rfl (by decide) (by decide)
  rw [h1, step_x _ _ (by omega)]
theorem step_li (ks : List Nd) (c : Nat) (hc : c < 3000) : stepZ (stepZ ([liF, ulF ks, rootF []], c) liK) xK = ([liF, ulF (ks ++ [liN]), rootF []], c + 2) := by
  have h1 : stepZ ([liF, ulF ks, rootF []], c) liK = (⟨[108, 105], [], []⟩ :: [ulF (ks ++ [liN]), rootF []], c + 1) := by
    rw [stepZ_start _ _ rfl]
    exact startZ_push _ _ _ _ [[], [117, 108], [108, 105]] 2 (ulF (ks ++ [liN])) [rootF []] (by show c ≠ 5000; omega) rfl (by decide) rfl (by decide) (by decide)
  rw [h1, step_x _ _ (by omega)]
theorem fold_items : ∀ (n c : Nat) (ks : List Nd), c + 2 * n < 3000 → (List.replicate n [liK, xK]).flatten.foldl stepZ ([liF, ulF ks, rootF []], c) = ([liF, ulF (ks ++ List.replicate n liN), rootF []], c + 2 * n)
  | 0, c, ks, _ => by simp
  | n + 1, c, ks, h => by
    rw [List.replicate_succ, List.flatten_cons, List.foldl_append]
    simp only [List.foldl_cons, List.foldl_nil]
    rw [step_li ks c (by omega), fold_items n (c + 2) (ks ++ [liN]) (by omega)]
    rw [List.append_assoc, show c + 2 + 2 * n = c + 2 * (n + 1) by omega]
    rfl
theorem fold_all (n : Nat) (hn : 1 ≤ n) (h : n ≤ 60) : (List.replicate n [liK, xK]).flatten.foldl stepZ ([ulF [], rootF []], 1) = ([liF, ulF (List.replicate (n - 1) liN), rootF []], 1 + 2 * n) := by
  obtain ⟨m, rfl⟩ : ∃ m, n = m + 1 := ⟨n - 1, by omega⟩
  rw [List.replicate_succ, List.flatten_cons, List.foldl_append]
  simp only [List.foldl_cons, List.foldl_nil]
  rw [step_li0 1 (by decide), fold_items m 3 [] (by omega)]
  rw [show 1 + 2 * (m + 1) = 3 + 2 * m by omega]
  rfl
theorem step_end (ks : List Nd) (c : Nat) (hc : c < 3000) : stepZ (stepZ ([liF, ulF ks, rootF []], c) endUlK) yK = ([rootF [.mk [117, 108] [] [] (ks ++ [liN]), .mk [] [] [121] []]], c + 1) := by
  have h1 : stepZ ([liF, ulF ks, rootF []], c) endUlK = ([rootF [.mk [117, 108] [] [] (ks ++ [liN])]], c) := by
    rw [stepZ_end _ _ rfl]
    have := endZ_at [liF, ulF ks, rootF []] [117, 108] [[], [117, 108], [108, 105]] 1 rfl (show shutI (fun n => n == [117, 108]) [[], [117, 108], [108, 105]] 2 = some 1 by decide)
    show (endZ [liF, ulF ks, rootF []] [117, 108], c) = _
    rw [this]; rfl
  rw [h1, stepZ_chars _ _ rfl]
  exact charsZ_fresh _ _ _ _ (by show c ≠ 5000; omega) (fun n a x k h => by simp [rootF] at h; rw [← h.1]; decide)
theorem build_list (n : Nat) (h1 : 1 ≤ n) (h2 : n ≤ 60) : buildL (repB n ++ (endUlB ++ [121])) = [.mk [117, 108] [] [] (List.replicate n liN), .mk [] [] [121] []] := by
  have e : repB n ++ (endUlB ++ [121]) = ulB ++ itemsB n := repB_items n 0
  have hz : (buildZ (scanL (repB n ++ (endUlB ++ [121])))).1 = [rootF [.mk [117, 108] [] [] (List.replicate n liN), .mk [] [] [121] []]] := by
    rw [e, scan_list n]
    unfold buildZ
    rw [List.foldl_cons, show (⟨[], [], []⟩ : Fm) = rootF [] from rfl, step_ul, List.foldl_append, fold_all n h1 h2]
    simp only [List.foldl_cons, List.foldl_nil]
    rw [step_end _ _ (by omega)]
    obtain ⟨m, rfl⟩ : ∃ m, n = m + 1 := ⟨n - 1, by omega⟩
    show [rootF [.mk [117, 108] [] [] (List.replicate (m + 1 - 1) liN ++ [liN]), _]] = _
    rw [Nat.add_sub_cancel, ← List.replicate_succ']
  unfold buildL
  rw [hz]
  rfl
end Go.Proofs.YtdmmeinkligmcaaGreatDoor
set_option linter.unusedVariables false
set_option maxRecDepth 100000
set_option maxHeartbeats 2000000
namespace Go.Proofs.YtdmmeinkligmcaaGreatDoor

theorem encodeRune_ne (r : Int) : Lib.encodeRune r ≠ [] := by
  unfold Lib.encodeRune Lib.encodeRuneZ
  split
  · simp
  · split
    · simp
    · split
      · simp
      · split <;> simp
theorem singlesL_ne (c : UInt8) (l : Bs) : singlesL (c :: l) ≠ [] := by
  have := encodeRune_ne (signOf c)
  simp [singlesL, this]
theorem numberedL_ne (n : Nat) : numberedL n ≠ [] := by
  unfold numberedL
  split
  · simp
  · split
    · exact singlesL_ne _ _
    · exact encodeRune_ne _
theorem signL_ne (s t : Bs) (h : signL s = some t) : t ≠ [] := by
  unfold signL at h
  split at h
  · obtain ⟨n, _, rfl⟩ := Option.map_eq_some_iff.1 h
    exact numberedL_ne n
  · obtain ⟨n, _, rfl⟩ := Option.map_eq_some_iff.1 h
    exact encodeRune_ne n
theorem decodeL_ne (s : Bs) (h : s ≠ []) : decodeL s ≠ [] := by
  unfold decodeL decodeF
  split
  · split
    · rename_i t _ ht
      have := signL_ne _ _ ht
      simp [this]
    · simp
  · rename_i hc
    have hl := cutB_len 38 s
    intro e
    rw [e] at hl
    have : (cutB 38 s).2.1 = [] := by
      cases s with
      | nil => exact absurd rfl h
      | cons c s =>
        unfold cutB at hc ⊢
        split
        · rename_i hx; rw [if_pos hx] at hc; simp at hc
        · rename_i hx
          rw [if_neg hx] at hc
          unfold cutB at e
          rw [if_neg hx] at e
          simp at e
    rw [this] at hl
    simp [hc] at hl
    exact h (List.eq_nil_of_length_eq_zero hl.symm)
theorem begins_lt (c : UInt8) (r : Bs) (h : c ≠ 60) : beginsB (c :: r) = false := by
  cases r with
  | nil => rfl
  | cons d r => simp [beginsB, h]
theorem headN_plain : ∀ (s r : Bs), (60 : UInt8) ∉ s → (r = [] ∨ beginsB r = true) → headN (s ++ r) = s.length
  | [], r, _, h => by
    rcases h with rfl | h
    · rfl
    · match r, h with
      | c :: r, h => show headN (c :: r) = 0; unfold headN; rw [if_pos h]
  | c :: s, r, hs, h => by
    have hc : c ≠ 60 := fun e => hs (by rw [e]; exact List.mem_cons_self ..)
    have ih := headN_plain s r (fun k => hs (List.mem_cons_of_mem _ k)) h
    show headN (c :: (s ++ r)) = _
    unfold headN
    rw [if_neg (by rw [begins_lt c _ hc]; decide), ih]; simp
def txN (t : Bs) : Nd := .mk [] [] t []
theorem chars_nil (t : Bs) (ht : t ≠ []) : charsK [] t = [⟨1, [], [], t⟩] := by rw [charsK_none t ht]
theorem scan_plain (s : Bs) (h0 : s ≠ []) (h : (60 : UInt8) ∉ s) : scanL s = [⟨1, [], [], decodeL s⟩] := by
  have hn := headN_plain s [] h (Or.inl rfl)
  rw [List.append_nil] at hn
  unfold scanL
  rw [scanF, if_neg h0, hn, if_pos (by simp), List.take_length, chars_nil _ (decodeL_ne s h0)]
def remX : Bs := [60, 33, 45, 45, 120, 45, 45, 62]
def remY : Bs := [60, 33, 45, 45, 121, 45, 45, 62]
def endQ : Bs := [60, 47, 113, 62]
theorem mark_remX (r : Bs) (ts : List Tk) : markupS (remX ++ r) ts = (r, ts ++ [⟨4, [], [], [120]⟩]) := rfl
theorem mark_remY (r : Bs) (ts : List Tk) : markupS (remY ++ r) ts = (r, ts ++ [⟨4, [], [], [121]⟩]) := rfl
theorem scan_rem (s : Bs) (h0 : s ≠ []) (h : (60 : UInt8) ∉ s) : scanL (remX ++ (s ++ (remY ++ endQ))) = [⟨4, [], [], [120]⟩, ⟨1, [], [], decodeL s⟩, ⟨4, [], [], [121]⟩, ⟨3, [113], [], []⟩] := by
  rw [scanL_tag remX _ ⟨4, [], [], [120]⟩ rfl (mark_remX _ _) (by show (4 : Int) ≠ 1; decide) (by decide)]
  have hn := headN_plain s (remY ++ endQ) h (Or.inr rfl)
  have h1 : s ++ (remY ++ endQ) ≠ [] := by intro e; simp [remY] at e
  congr 1
  unfold scanL
  rw [scanF, if_neg h1, hn]
  rw [List.drop_left, List.take_left, if_neg (by decide), chars_nil _ (decodeL_ne s h0), mark_remY]
  have h2 := scanF_pre ([⟨1, [], [], decodeL s⟩] ++ [⟨4, [], [], [121]⟩]) (fun q hq => by simp at hq; subst hq; show (4 : Int) ≠ 1; decide) (s ++ (remY ++ endQ)).length endQ []
  rw [List.append_nil] at h2
  simp only
  rw [h2]
  have h3 : scanF (s ++ (remY ++ endQ)).length endQ [] = scanF (endQ.length + 1) endQ [] := scanF_more _ _ _ _ (by simp [remY]; omega) (by omega)
  rw [h3, show scanF (endQ.length + 1) endQ [] = [⟨3, [113], [], []⟩] from rfl]
  rfl
theorem text_plain (s : Bs) (h0 : s ≠ []) (h : (60 : UInt8) ∉ s) : buildL s = [txN (decodeL s)] := by
  unfold buildL
  rw [scan_plain s h0 h]
  generalize decodeL s = D
  have hz : buildZ [⟨1, [], [], D⟩] = ([rootF [txN D]], 1) := by
    unfold buildZ
    simp only [List.foldl_cons, List.foldl_nil]
    rw [stepZ_chars _ _ rfl]
    exact charsZ_fresh (rootF []) [] 0 D (by decide) (fun n a x k h => by simp [rootF] at h)
  rw [hz]; rfl
theorem text_rem (s : Bs) (h0 : s ≠ []) (h : (60 : UInt8) ∉ s) : buildL (remX ++ (s ++ (remY ++ endQ))) = [txN (decodeL s)] := by
  unfold buildL
  rw [scan_rem s h0 h]
  generalize decodeL s = D
  have hz : buildZ [⟨4, [], [], [120]⟩, ⟨1, [], [], D⟩, ⟨4, [], [], [121]⟩, ⟨3, [113], [], []⟩] = ([rootF [txN D]], 1) := by
    unfold buildZ
    simp only [List.foldl_cons, List.foldl_nil]
    have e1 : stepZ ([⟨[], [], []⟩], 0) ⟨4, [], [], [120]⟩ = ([rootF []], 0) := rfl
    have e2 : stepZ ([rootF []], 0) ⟨1, [], [], D⟩ = ([rootF [txN D]], 1) := by
      rw [stepZ_chars _ _ rfl]
      exact charsZ_fresh (rootF []) [] 0 D (by decide) (fun n a x k h => by simp [rootF] at h)
    rw [e1, e2]
    rfl
  rw [hz]; rfl
end Go.Proofs.YtdmmeinkligmcaaGreatDoor
