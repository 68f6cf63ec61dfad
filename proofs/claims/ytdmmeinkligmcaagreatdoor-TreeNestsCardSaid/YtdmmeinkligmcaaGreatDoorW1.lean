/- Tokens that stand ahead change nothing of what follows; ends of elements that are not open. -/
import Derived.Test.YtdmmeinkligmcaaGreatDoorT14
set_option linter.unusedVariables false
set_option maxRecDepth 100000
set_option maxHeartbeats 2000000
namespace Go.Proofs.YtdmmeinkligmcaaGreatDoor

/-- The last token is no characters. -/
def Shut1 (pre : List Tk) : Prop := ∀ k, pre.getLast? = some k → k.kind ≠ 1
theorem charsK_pre (pre ts : List Tk) (t : Bs) (h : Shut1 pre) : charsK (pre ++ ts) t = pre ++ charsK ts t := by
  by_cases ht : t = []
  · subst ht; simp [charsK]
  rcases List.eq_nil_or_concat ts with e | ⟨l, k, e⟩
  · subst e
    rw [List.append_nil, charsK_none t ht]
    rcases List.eq_nil_or_concat pre with e | ⟨l, k, e⟩
    · subst e; rw [charsK_none t ht]; rfl
    · rw [List.concat_eq_append] at e
      subst e
      rw [charsK_new l k t ht (h k (by simp))]
  · rw [List.concat_eq_append] at e
    subst e
    by_cases hk : k.kind = 1
    · rw [← List.append_assoc, charsK_join (pre ++ l) k t ht hk, charsK_join l k t ht hk, List.append_assoc]
    · rw [← List.append_assoc, charsK_new (pre ++ l) k t ht hk, charsK_new l k t ht hk]
      simp
theorem commentS_pre (pre ts : List Tk) (s e : Bs) : commentS s e (pre ++ ts) = ((commentS s e ts).1, pre ++ (commentS s e ts).2) := by simp [commentS]
theorem remarkS_pre (pre ts : List Tk) (s : Bs) : remarkS s (pre ++ ts) = ((remarkS s ts).1, pre ++ (remarkS s ts).2) := by
  unfold remarkS
  split
  · simp
  · split
    · simp
    · exact commentS_pre _ _ _ _
theorem rawS_pre (pre ts : List Tk) (n r : Bs) (h : Shut1 pre) : rawS n r (pre ++ ts) = ((rawS n r ts).1, pre ++ (rawS n r ts).2) := by
  unfold rawS
  split
  · simp [charsK_pre pre ts _ h]
  · split <;> simp [charsK_pre pre ts _ h]
theorem tagS_pre (pre ts : List Tk) (k : Int) (s : Bs) (h : Shut1 pre) : tagS k s (pre ++ ts) = ((tagS k s ts).1, pre ++ (tagS k s ts).2) := by
  unfold tagS
  split
  · rfl
  · split
    · simp
    · split
      · rw [List.append_assoc, rawS_pre pre _ _ _ h]
      · simp
theorem markupS_pre (pre ts : List Tk) (r : Bs) (h : Shut1 pre) : markupS r (pre ++ ts) = ((markupS r ts).1, pre ++ (markupS r ts).2) := by
  unfold markupS
  split
  · split
    · split
      · split
        · exact tagS_pre _ _ _ _ h
        · split
          · rfl
          · exact commentS_pre _ _ _ _
      · rfl
    · split
      · split
        · exact remarkS_pre _ _ _
        · exact commentS_pre _ _ _ _
      · split
        · exact commentS_pre _ _ _ _
        · exact tagS_pre _ _ _ _ h
  · rfl
theorem scanF_pre (pre : List Tk) (h : Shut1 pre) : ∀ (f : Nat) (s : Bs) (ts : List Tk), scanF f s (pre ++ ts) = pre ++ scanF f s ts
  | 0, s, ts => rfl
  | f + 1, s, ts => by
    unfold scanF
    split
    · rfl
    · split
      · exact charsK_pre _ _ _ h
      · rw [charsK_pre _ _ _ h, markupS_pre _ _ _ h]
        exact scanF_pre pre h f _ _
/-- One step of the scan over markup. -/
theorem scanF_mark (f : Nat) (r : Bs) (ts : List Tk) (hb : beginsB r = true) : scanF (f + 1) r ts = scanF f (markupS r ts).1 (markupS r ts).2 := by
  have h0 : headN r = 0 := by
    cases r with
    | nil => rfl
    | cons c r => unfold headN; rw [if_pos hb]
  have hne : r ≠ [] := by intro e; subst e; simp [beginsB] at hb
  have hd : decodeL [] = [] := rfl
  rw [scanF, if_neg hne, h0]
  simp only [List.drop_zero, List.take_zero, hd]
  rw [if_neg hne]
  have hc : charsK ts [] = ts := by simp [charsK]
  rw [hc]
theorem build_mark (r : Bs) (hb : beginsB r = true) (hl : (markupS r []).1.length + 1 ≤ r.length) (hs : Shut1 (markupS r []).2) : scanL r = (markupS r []).2 ++ scanL (markupS r []).1 := by
  have h1 := scanF_mark r.length r [] hb
  unfold scanL
  rw [h1]
  have h2 := scanF_pre (markupS r []).2 hs r.length (markupS r []).1 []
  rw [List.append_nil] at h2
  rw [h2]
  congr 1
  exact scanF_more _ _ _ _ (by omega) (by omega)
def endB : Bs := [60, 47, 98, 62]
def endP : Bs := [60, 47, 112, 62]
def endDiv : Bs := [60, 47, 100, 105, 118, 62]
def endX : Bs := [60, 47, 120, 62]
theorem mark_b (s : Bs) : markupS (endB ++ s) [] = (s, [⟨3, [98], [], []⟩]) := rfl
theorem mark_p (s : Bs) : markupS (endP ++ s) [] = (s, [⟨3, [112], [], []⟩]) := rfl
theorem mark_div (s : Bs) : markupS (endDiv ++ s) [] = (s, [⟨3, [100, 105, 118], [], []⟩]) := rfl
theorem mark_x (s : Bs) : markupS (endX ++ s) [] = (s, [⟨3, [120], [], []⟩]) := rfl
theorem scan_end_tag (e n s : Bs) (hb : beginsB (e ++ s) = true) (hm : markupS (e ++ s) [] = (s, [⟨3, n, [], []⟩])) (he : 1 ≤ e.length) : scanL (e ++ s) = ⟨3, n, [], []⟩ :: scanL s := by
  have := build_mark (e ++ s) hb (by rw [hm]; simp; omega) (by rw [hm]; intro k hk; simp at hk; subst hk; show (3 : Int) ≠ 1; decide)
  rw [this, hm]; rfl
theorem scan_ends (s : Bs) : scanL (endB ++ (endP ++ (endDiv ++ (endX ++ s)))) = [⟨3, [98], [], []⟩, ⟨3, [112], [], []⟩, ⟨3, [100, 105, 118], [], []⟩, ⟨3, [120], [], []⟩] ++ scanL s := by
  rw [scan_end_tag endB [98] _ rfl (mark_b _) (by decide), scan_end_tag endP [112] _ rfl (mark_p _) (by decide), scan_end_tag endDiv [100, 105, 118] _ rfl (mark_div _) (by decide), scan_end_tag endX [120] _ rfl (mark_x _) (by decide)]
  rfl
theorem buildZ_app (a b : List Tk) : buildZ (a ++ b) = b.foldl stepZ (buildZ a) := by simp [buildZ, List.foldl_append]
theorem build_ends (s : Bs) : buildL (endB ++ (endP ++ (endDiv ++ (endX ++ s)))) = buildL s := by
  unfold buildL
  rw [scan_ends, buildZ_app]
  rfl
end Go.Proofs.YtdmmeinkligmcaaGreatDoor
