/- The scan's tokens: texts and names are not empty; at most as many as the document has bytes. -/
import Derived.Test.YtdmmeinkligmcaaGreatDoorW3
import Derived.Lib.IndexAny
set_option linter.unusedVariables false
set_option maxRecDepth 100000
set_option maxHeartbeats 2000000
namespace Go.Proofs.YtdmmeinkligmcaaGreatDoor

def AllT (ts : List Tk) : Prop := ∀ t, t ∈ ts → okT t
theorem cnt12_app (a b : List Tk) : cnt12 (a ++ b) = cnt12 a + cnt12 b := by simp [cnt12]
theorem AllT.snoc {ts : List Tk} (h : AllT ts) {t : Tk} (ht : okT t) : AllT (ts ++ [t]) := fun q hq => by
  rcases List.mem_append.1 hq with hq | hq
  · exact h q hq
  · rw [List.mem_singleton] at hq; subst hq; exact ht
theorem okT_other {k : Int} {n : Bs} {a : List At} {x : Bs} (h1 : k ≠ 1) (h2 : k ≠ 2) : okT ⟨k, n, a, x⟩ := ⟨fun e => absurd e h1, fun e => absurd e h2⟩
theorem okT_start {n : Bs} {a : List At} {x : Bs} (h : nmOk n) : okT ⟨2, n, a, x⟩ := ⟨fun e => absurd (show (2 : Int) = 1 from e) (by decide), fun _ => h⟩
theorem okT_chars {n : Bs} {a : List At} {x : Bs} (h : x ≠ []) : okT ⟨1, n, a, x⟩ := ⟨fun _ => h, fun e => absurd (show (1 : Int) = 2 from e) (by decide)⟩
theorem charsK_ok (ts : List Tk) (t : Bs) (h : AllT ts) : AllT (charsK ts t) := by
  by_cases ht : t = []
  · subst ht; simpa [charsK] using h
  rcases List.eq_nil_or_concat ts with e | ⟨l, k, e⟩
  · subst e; rw [charsK_none t ht]; exact h.snoc (okT_chars ht)
  · rw [List.concat_eq_append] at e
    subst e
    by_cases hk : k.kind = 1
    · rw [charsK_join l k t ht hk]
      refine AllT.snoc (fun q hq => h q (List.mem_append_left _ hq)) ⟨fun _ => ?_, fun e => ?_⟩
      · simp [ht]
      · simp only at e; rw [hk] at e; cases e
    · rw [charsK_new l k t ht hk]
      exact h.snoc (okT_chars ht)
theorem charsK_cnt (ts : List Tk) (t : Bs) : cnt12 (charsK ts t) ≤ cnt12 ts + t.length := by
  by_cases ht : t = []
  · subst ht; simp [charsK]
  have h0 : 1 ≤ t.length := by cases t with | nil => exact absurd rfl ht | cons => simp
  rcases List.eq_nil_or_concat ts with e | ⟨l, k, e⟩
  · subst e; rw [charsK_none t ht]; simp [cnt12, w12]; omega
  · rw [List.concat_eq_append] at e
    subst e
    by_cases hk : k.kind = 1
    · rw [charsK_join l k t ht hk]; simp [cnt12, w12, hk]
    · rw [charsK_new l k t ht hk, cnt12_app (l ++ [k])]; simp [cnt12, w12]; omega
theorem charsK_cnt1 (ts : List Tk) (t : Bs) : cnt12 (charsK ts t) ≤ cnt12 ts + 1 := by
  by_cases ht : t = []
  · subst ht; simp [charsK]
  rcases List.eq_nil_or_concat ts with e | ⟨l, k, e⟩
  · subst e; rw [charsK_none t ht]; simp [cnt12, w12]
  · rw [List.concat_eq_append] at e
    subst e
    by_cases hk : k.kind = 1
    · rw [charsK_join l k t ht hk]; simp [cnt12, w12, hk]
    · rw [charsK_new l k t ht hk, cnt12_app (l ++ [k])]; simp [cnt12, w12]
theorem decode_cnt (ts : List Tk) (s : Bs) : cnt12 (charsK ts (decodeL s)) ≤ cnt12 ts + s.length := by
  cases s with
  | nil => have : decodeL [] = [] := rfl
           rw [this]; exact charsK_cnt ts []
  | cons c s => have := charsK_cnt1 ts (decodeL (c :: s)); simp only [List.length_cons]; omega
structure MK (TS : Bs × List Tk) (r : Nat) (ts : List Tk) : Prop where
  cnt : cnt12 TS.2 + TS.1.length ≤ cnt12 ts + r
  all : AllT ts → AllT TS.2
theorem commentS_mk (s e : Bs) (ts : List Tk) : MK (commentS s e ts) s.length ts := by
  have := cut_len s e
  refine ⟨?_, fun h => h.snoc (okT_other (by decide) (by decide))⟩
  simp only [commentS, cnt12_app]
  simp [cnt12, w12]; omega
theorem remarkS_mk (s : Bs) (ts : List Tk) : MK (remarkS s ts) s.length ts := by
  have ht : ∀ p, (Lib.trimPrefix s p).length ≤ s.length := fun p => by unfold Lib.trimPrefix; split <;> simp
  have h4 : okT ⟨4, [], [], []⟩ := okT_other (by decide) (by decide)
  unfold remarkS
  split
  · exact ⟨by simp only [cnt12_app]; have := ht [62]; simp [cnt12, w12]; omega, fun h => h.snoc h4⟩
  · split
    · exact ⟨by simp only [cnt12_app]; have := ht [45, 62]; simp [cnt12, w12]; omega, fun h => h.snoc h4⟩
    · exact commentS_mk _ _ _
theorem rawS_mk (name rest : Bs) (ts : List Tk) : MK (rawS name rest ts) rest.length ts := by
  unfold rawS
  split
  · exact ⟨by simpa using charsK_cnt ts rest, charsK_ok _ _⟩
  · split
    · exact ⟨by simpa using charsK_cnt ts rest, charsK_ok _ _⟩
    · rename_i a _
      have := charsK_cnt ts (rest.take a)
      refine ⟨?_, charsK_ok _ _⟩
      simp only [List.length_drop, List.length_take] at this ⊢; omega
theorem letter_stop (c : UInt8) (h : letterB c = true) : stopB whSlGt c = false := by
  unfold stopB
  rw [← Lib.contains_iff_indexByte, Bool.eq_false_iff]
  intro hc
  have hm : c ∈ whSlGt := by simpa using hc
  have : ∀ x, x ∈ whSlGt → letterB x = false := by decide
  rw [this c hm] at h; cases h
theorem tagS_mk (kind : Int) (c : UInt8) (r : Bs) (ts : List Tk) (hc : letterB c = true) (hk : kind = 2 ∨ kind = 3) (hlen : r.length < 1000000) : MK (tagS kind (c :: r) ts) (r.length + 2) ts := by
  have hu := untilL_len whSlGt (c :: r)
  have hn : nmOk (smallL (untilL whSlGt (c :: r)).1) := ⟨by simp [untilL, letter_stop c hc, smallL], by rw [smallL_len]; simp only [List.length_cons] at hu; omega⟩
  unfold tagS
  split
  · exact ⟨by simp, fun h => h⟩
  · rename_i l r' h
    have hr := attrsF_len _ _ _ _ _ h
    simp only [List.length_cons] at hu
    split
    · refine ⟨?_, fun h => h.snoc (okT_other (by decide) (by decide))⟩
      simp only [cnt12_app]; simp [cnt12, w12]; omega
    · rename_i h3
      have hk2 : kind = 2 := by rcases hk with hk | hk; exact hk; exact absurd hk h3
      subst hk2
      have ok2 : okT ⟨2, smallL (untilL whSlGt (c :: r)).1, l, []⟩ := okT_start hn
      split
      · obtain ⟨m1, m2⟩ := rawS_mk (smallL (untilL whSlGt (c :: r)).1) r' (ts ++ [⟨2, smallL (untilL whSlGt (c :: r)).1, l, []⟩])
        refine ⟨?_, fun h => m2 (h.snoc ok2)⟩
        rw [cnt12_app] at m1
        simp [cnt12, w12] at m1 ⊢; omega
      · refine ⟨?_, fun h => h.snoc ok2⟩
        simp only [cnt12_app]; simp [cnt12, w12]; omega
theorem markupS_mk (rest : Bs) (ts : List Tk) (hb : beginsB rest = true) (hlen : rest.length ≤ 1000000) : MK (markupS rest ts) rest.length ts := by
  match rest, hb, hlen with
  | [], hb, _ => simp [beginsB] at hb
  | [_], hb, _ => simp [beginsB] at hb
  | a :: c :: r, hb, hlen =>
    simp only [List.length_cons] at hlen
    unfold markupS
    simp only
    by_cases hc : c = 47
    · rw [if_pos hc]
      match r, hlen with
      | [], _ => exact ⟨by simp, fun h => h⟩
      | d :: r', hlen =>
        simp only [List.length_cons] at hlen
        simp only
        split
        · rename_i hd
          have := tagS_mk 3 d r' ts hd (Or.inr rfl) (by omega)
          exact ⟨by have := this.cnt; simp only [List.length_cons]; omega, this.all⟩
        · split
          · exact ⟨by simp; omega, fun h => h⟩
          · have := commentS_mk (d :: r') [62] ts
            exact ⟨by have := this.cnt; simp only [List.length_cons] at this ⊢; omega, this.all⟩
    · rw [if_neg hc]
      by_cases h33 : c = 33
      · rw [if_pos h33]
        split
        · have h1 := remarkS_mk (Lib.trimPrefix (a :: c :: r) bangL) ts
          have ht : (Lib.trimPrefix (a :: c :: r) bangL).length ≤ (a :: c :: r).length := by unfold Lib.trimPrefix; split <;> simp
          exact ⟨by have := h1.cnt; omega, h1.all⟩
        · have := commentS_mk r [62] ts
          exact ⟨by have := this.cnt; simp only [List.length_cons]; omega, this.all⟩
      · rw [if_neg h33]
        split
        · have := commentS_mk (c :: r) [62] ts
          exact ⟨by have := this.cnt; simp only [List.length_cons] at this ⊢; omega, this.all⟩
        · rename_i h63
          have hl : letterB c = true := by
            simp only [beginsB] at hb
            split at hb
            · simpa [h33, h63] using hb
            · cases hb
          have := tagS_mk 2 c r ts hl (Or.inl rfl) (by omega)
          exact ⟨by have := this.cnt; simp only [List.length_cons]; omega, this.all⟩
theorem scanF_mk : ∀ (f : Nat) (s : Bs) (ts : List Tk), s.length ≤ 1000000 → cnt12 (scanF f s ts) ≤ cnt12 ts + s.length ∧ (AllT ts → AllT (scanF f s ts))
  | 0, s, ts, _ => ⟨by simp [scanF], fun h => by simpa [scanF] using h⟩
  | f + 1, s, ts, hlen => by
    have a1 := decode_cnt ts (s.take (headN s))
    have a5 : (s.take (headN s)).length + (s.drop (headN s)).length = s.length := by simp; have := headN_le s; omega
    unfold scanF
    split
    · exact ⟨by omega, fun h => h⟩
    · split
      · exact ⟨by omega, charsK_ok _ _⟩
      · rename_i _ hd
        have hb := headN_stop s hd
        obtain ⟨m1, m2⟩ := markupS_mk _ (charsK ts (decodeL (s.take (headN s)))) hb (by omega)
        have hr := (markupS_in _ (charsK ts (decodeL (s.take (headN s)))) hb).rest
        obtain ⟨k1, k2⟩ := scanF_mk f (markupS (s.drop (headN s)) (charsK ts (decodeL (s.take (headN s))))).1 (markupS (s.drop (headN s)) (charsK ts (decodeL (s.take (headN s))))).2 (by omega)
        exact ⟨by omega, fun h => k2 (m2 (charsK_ok _ _ h))⟩
/-- What every tree that is built keeps. -/
theorem build_right (s : Bs) (hlen : s.length ≤ 1000000) : okL (buildL s) ∧ depL (buildL s) ≤ 31 ∧ cntL (buildL s) ≤ 5000 ∧ cntL (buildL s) ≤ s.length := by
  obtain ⟨k1, k2⟩ := scanF_mk (s.length + 1) s [] hlen
  have hall : AllT (scanL s) := k2 (fun t ht => by cases ht)
  obtain ⟨h1, h2⟩ := fold_ok (scanL s) ([⟨[], [], []⟩], 0) hall ⟨⟨trivial, by simp [depL]⟩, by simp, by simp [cntZ, cntL], by simp⟩
  obtain ⟨r1, r2, r3⟩ := root_ok _ h1
  have hc : cnt12 (scanL s) ≤ s.length := by simpa [cnt12, scanL] using k1
  refine ⟨r1, r2, ?_, ?_⟩
  · show cntL (rootK (popTo ((buildZ (scanL s)).1.length - 1) (buildZ (scanL s)).1)) ≤ _
    rw [show cntL (rootK (popTo ((buildZ (scanL s)).1.length - 1) (buildZ (scanL s)).1)) = (buildZ (scanL s)).2 from r3]
    exact h1.le
  · show cntL (rootK (popTo ((buildZ (scanL s)).1.length - 1) (buildZ (scanL s)).1)) ≤ _
    rw [show cntL (rootK (popTo ((buildZ (scanL s)).1.length - 1) (buildZ (scanL s)).1)) = (buildZ (scanL s)).2 from r3]
    have : (buildZ (scanL s)).2 ≤ 0 + cnt12 (scanL s) := h2
    omega
end Go.Proofs.YtdmmeinkligmcaaGreatDoor
