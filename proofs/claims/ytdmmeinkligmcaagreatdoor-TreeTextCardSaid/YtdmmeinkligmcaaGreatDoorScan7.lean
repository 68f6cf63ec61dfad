/- htok.Scan as a plain function: its bounds. -/
import Derived.Test.YtdmmeinkligmcaaGreatDoorScan6
set_option linter.unusedVariables false
set_option maxRecDepth 100000
set_option maxHeartbeats 2000000
namespace Go.Proofs.YtdmmeinkligmcaaGreatDoor
open Go.RowKit

theorem decodeF_len : ∀ (f : Nat) (s : Bs), (decodeF f s).length ≤ 4 * s.length
  | 0, s => by simp [decodeF]
  | f + 1, s => by
    have h1 := cutB_len 38 s
    have h2 := cutB_len 59 (cutB 38 s).2.1
    unfold decodeF
    split
    · rename_i h; rw [h] at h1; simp only [if_true] at h1
      have e1 := decodeF_len f (cutB 59 (cutB 38 s).2.1).2.1
      have e2 := decodeF_len f (cutB 38 s).2.1
      split
      · rename_i t hc ht
        have := signL_len _ _ ht
        rw [hc] at h2; simp only [if_true] at h2
        simp only [List.length_append]; omega
      · simp only [List.length_append, List.length_cons]; omega
    · omega
theorem decodeL_len (s : Bs) : (decodeL s).length ≤ 4 * s.length := decodeF_len _ s

/-- How many bytes stand ahead of the next markup. -/
def headN : Bs → Nat
  | [] => 0
  | c :: r => if beginsB (c :: r) then 0 else headN r + 1
theorem headN_le : ∀ (l : Bs), headN l ≤ l.length
  | [] => by simp [headN]
  | c :: r => by
    have := headN_le r
    unfold headN; split
    · omega
    · simp; omega
theorem headN_at : ∀ (l : Bs) (k : Nat), k ≤ l.length → (∀ j, j < k → beginsB (l.drop j) = false) → (k = l.length ∨ beginsB (l.drop k) = true) → headN l = k
  | [], k, h, _, _ => by have : k = 0 := by simpa using h
                         subst this; rfl
  | c :: r, 0, _, _, he => by
    rcases he with he | he
    · simp at he
    · unfold headN; rw [if_pos (by simpa using he)]
  | c :: r, k + 1, hk, hl, he => by
    have h0 := hl 0 (by omega)
    have := headN_at r k (by simpa using hk) (fun j hj => by simpa using hl (j + 1) (by omega)) (by rcases he with he | he; exact .inl (by simpa using he); exact .inr (by simpa using he))
    unfold headN
    rw [if_neg (by simpa using h0), this]
theorem headN_stop : ∀ (l : Bs), l.drop (headN l) ≠ [] → beginsB (l.drop (headN l)) = true
  | [], h => by simp [headN] at h
  | c :: r, h => by
    unfold headN at h ⊢
    split at h
    · rename_i hb; rw [if_pos hb]; simpa using hb
    · rename_i hb; rw [if_neg hb]; simp only [List.drop_succ_cons] at h ⊢; exact headN_stop r h

def scanF : Nat → Bs → List Tk → List Tk
  | 0, _, ts => ts
  | f + 1, rest, ts =>
    if rest = [] then ts
    else if rest.drop (headN rest) = [] then charsK ts (decodeL (rest.take (headN rest)))
    else scanF f (markupS (rest.drop (headN rest)) (charsK ts (decodeL (rest.take (headN rest))))).1 (markupS (rest.drop (headN rest)) (charsK ts (decodeL (rest.take (headN rest))))).2
def scanL (s : Bs) : List Tk := scanF (s.length + 1) s []

theorem cut_len (s e : Bs) : (Lib.cut s e).1.length + (Lib.cut s e).2.1.length ≤ s.length := by
  unfold Lib.cut
  split
  · rename_i h
    have := Lib.index_room s e h
    simp only [List.length_take, List.length_drop]; omega
  · simp
structure Within (TS : Bs × List Tk) (r : Nat) (ts : List Tk) (more : Nat) : Prop where
  rest : TS.1.length ≤ r
  len : TS.2.length ≤ ts.length + more
  sum : textsum TS.2 + TS.1.length ≤ textsum ts + r
theorem commentS_in (s e : Bs) (ts : List Tk) : Within (commentS s e ts) s.length ts 1 := by
  have := cut_len s e
  refine ⟨by simp only [commentS]; omega, by simp [commentS], ?_⟩
  simp only [commentS, textsum_app]
  simp [textsum]; omega
theorem remarkS_in (s : Bs) (ts : List Tk) : Within (remarkS s ts) s.length ts 1 := by
  have ht : ∀ p, (Lib.trimPrefix s p).length ≤ s.length := fun p => by unfold Lib.trimPrefix; split <;> simp
  unfold remarkS
  split
  · exact ⟨ht _, by simp, by simp only [textsum_app]; have := ht [62]; simp [textsum]; omega⟩
  · split
    · exact ⟨ht _, by simp, by simp only [textsum_app]; have := ht [45, 62]; simp [textsum]; omega⟩
    · exact commentS_in _ _ _
theorem rawS_in (name rest : Bs) (ts : List Tk) : Within (rawS name rest ts) rest.length ts 1 := by
  unfold rawS
  have h0 := charsK_len ts rest
  have h1 := charsK_sum ts rest
  split
  · exact ⟨by simp, by simpa using h0, by simp [h1]⟩
  · split
    · exact ⟨by simp, by simpa using h0, by simp [h1]⟩
    · rename_i a _
      have h2 := charsK_len ts (rest.take a)
      have h3 := charsK_sum ts (rest.take a)
      refine ⟨by simp, by simpa using h2, ?_⟩
      simp only [h3, List.length_take, List.length_drop]; omega
theorem tagS_in (kind : Int) (s : Bs) (ts : List Tk) : Within (tagS kind s ts) s.length ts 2 := by
  have hu := untilL_len whSlGt s
  unfold tagS
  split
  · exact ⟨by simp, by simp, by simp⟩
  · rename_i l r h
    have hr := attrsF_len _ _ _ _ _ h
    split
    · exact ⟨by simp only; omega, by simp, by simp only [textsum_app]; simp [textsum]; omega⟩
    · split
      · have := rawS_in (smallL (untilL whSlGt s).1) r (ts ++ [⟨kind, smallL (untilL whSlGt s).1, l, []⟩])
        have h1 := this.rest; have h2 := this.len; have h3 := this.sum
        refine ⟨by omega, by simpa using h2, ?_⟩
        rw [textsum_app] at h3
        simp [textsum] at h3 ⊢; omega
      · exact ⟨by simp only; omega, by simp, by simp only [textsum_app]; simp [textsum]; omega⟩
theorem markupS_in (rest : Bs) (ts : List Tk) (hb : beginsB rest = true) : Within (markupS rest ts) (rest.length - 1) ts 2 := by
  match rest, hb with
  | a :: c :: r, hb =>
    have up : ∀ {TS : Bs × List Tk} {n m k : Nat}, Within TS n ts k → n ≤ m → k ≤ 2 → Within TS m ts 2 := fun h hn hk => ⟨by have := h.rest; omega, by have := h.len; omega, by have := h.sum; omega⟩
    have hl : (a :: c :: r).length - 1 = r.length + 1 := by simp
    rw [hl]
    unfold markupS
    simp only
    split
    · split
      · rename_i d r' 
        split
        · exact up (tagS_in _ _ _) (by simp) (by omega)
        · split
          · exact ⟨by simp only [List.length_cons]; omega, by simp only; omega, by simp only [List.length_cons]; omega⟩
          · exact up (commentS_in _ _ _) (by simp) (by omega)
      · rename_i h47 _
        subst h47
        by_cases ha : a = 60 <;> simp [beginsB, ha] at hb
    · split
      · split
        · rename_i hp
          refine up (remarkS_in _ _) ?_ (by omega)
          unfold Lib.trimPrefix
          rw [if_pos hp]
          simp only [bangL, List.length_drop, List.length_cons, List.length_nil]; omega
        · exact up (commentS_in _ _ _) (by omega) (by omega)
      · split
        · exact up (commentS_in _ _ _) (by simp) (by omega)
        · exact up (tagS_in _ _ _) (by simp) (by omega)
theorem beginsB_pos {l : Bs} (h : beginsB l = true) : 1 ≤ l.length := by
  cases l with
  | nil => simp [beginsB] at h
  | cons a r => simp
theorem scanF_more : ∀ (f g : Nat) (s : Bs) (ts : List Tk), s.length < f → s.length < g → scanF f s ts = scanF g s ts
  | 0, _, _, _, h, _ => by omega
  | _, 0, _, _, _, h => by omega
  | f + 1, g + 1, s, ts, hf, hg => by
    unfold scanF
    split
    · rfl
    · split
      · rfl
      · rename_i _ h
        have hb := headN_stop s h
        have h1 := (markupS_in _ (charsK ts (decodeL (s.take (headN s)))) hb).rest
        have h2 := beginsB_pos hb
        have h3 : (s.drop (headN s)).length ≤ s.length := by simp
        exact scanF_more f g _ _ (by omega) (by omega)
theorem scanF_step (s : Bs) (ts : List Tk) (h0 : s ≠ []) (h : s.drop (headN s) ≠ []) :
    scanF (s.length + 1) s ts = scanF ((markupS (s.drop (headN s)) (charsK ts (decodeL (s.take (headN s))))).1.length + 1) (markupS (s.drop (headN s)) (charsK ts (decodeL (s.take (headN s))))).1 (markupS (s.drop (headN s)) (charsK ts (decodeL (s.take (headN s))))).2 := by
  have hb := headN_stop s h
  have h1 := (markupS_in _ (charsK ts (decodeL (s.take (headN s)))) hb).rest
  have h2 := beginsB_pos hb
  have h3 : (s.drop (headN s)).length ≤ s.length := by simp
  rw [scanF, if_neg h0, if_neg h]
  exact scanF_more _ _ _ _ (by omega) (by omega)
theorem scanF_last (s : Bs) (ts : List Tk) (h0 : s ≠ []) (h : s.drop (headN s) = []) : scanF (s.length + 1) s ts = charsK ts (decodeL (s.take (headN s))) := by
  rw [scanF, if_neg h0, if_pos h]
end Go.Proofs.YtdmmeinkligmcaaGreatDoor
