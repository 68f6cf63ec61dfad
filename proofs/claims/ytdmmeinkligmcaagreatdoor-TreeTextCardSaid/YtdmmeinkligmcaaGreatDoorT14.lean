/- tree.Build as a plain function; bounds of names. -/
import Derived.Test.YtdmmeinkligmcaaGreatDoorT13
set_option linter.unusedVariables false
set_option maxRecDepth 100000
set_option maxHeartbeats 2000000
namespace Go.Proofs.YtdmmeinkligmcaaGreatDoor
open Go.RowKit

def NamesIn (n : Nat) (ts : List Tk) : Prop := ∀ t, t ∈ ts → t.name.length ≤ n
theorem NamesIn.snoc {n : Nat} {ts : List Tk} (h : NamesIn n ts) {t : Tk} (ht : t.name.length ≤ n) : NamesIn n (ts ++ [t]) := fun q hq => by
  rcases List.mem_append.1 hq with hq | hq
  · exact h q hq
  · rw [List.mem_singleton] at hq; subst hq; exact ht
theorem NamesIn.chars {n : Nat} {ts : List Tk} (h : NamesIn n ts) (t : Bs) : NamesIn n (charsK ts t) := by
  unfold charsK
  split
  · exact h
  · split
    · rename_i k hk
      have hm := List.mem_of_getLast? hk
      split
      · exact NamesIn.snoc (fun q hq => h q (List.dropLast_subset _ hq)) (h k hm)
      · exact h.snoc (by simp)
    · exact h.snoc (by simp)
theorem NamesIn.comment {n : Nat} {ts : List Tk} (h : NamesIn n ts) (s e : Bs) : NamesIn n (commentS s e ts).2 := h.snoc (by simp)
theorem NamesIn.raw {n : Nat} {ts : List Tk} (h : NamesIn n ts) (name r : Bs) : NamesIn n (rawS name r ts).2 := by
  unfold rawS
  split
  · exact h.chars _
  · split
    · exact h.chars _
    · exact h.chars _
theorem NamesIn.tag {n : Nat} {ts : List Tk} (h : NamesIn n ts) (kind : Int) (s : Bs) (hs : s.length ≤ n) : NamesIn n (tagS kind s ts).2 := by
  have hu := untilL_len whSlGt s
  have hn : (smallL (untilL whSlGt s).1).length ≤ n := by rw [smallL_len]; omega
  unfold tagS
  split
  · exact h
  · split
    · exact h.snoc hn
    · split
      · exact (h.snoc hn).raw _ _
      · exact h.snoc hn
theorem NamesIn.markup {n : Nat} {ts : List Tk} (h : NamesIn n ts) (r : Bs) (hr : r.length ≤ n) : NamesIn n (markupS r ts).2 := by
  unfold markupS
  split
  · rename_i a c r
    simp at hr
    split
    · split
      · split
        · exact h.tag _ _ (by simp at hr ⊢; omega)
        · split
          · exact h
          · exact h.comment _ _
      · exact h
    · split
      · split
        · unfold remarkS
          split
          · exact h.snoc (by simp)
          · split
            · exact h.snoc (by simp)
            · exact h.comment _ _
        · exact h.comment _ _
      · split
        · exact h.comment _ _
        · exact h.tag _ _ (by simp; omega)
  · exact h
theorem NamesIn.scan {n : Nat} : ∀ (f : Nat) (s : Bs) (ts : List Tk), s.length ≤ n → NamesIn n ts → NamesIn n (scanF f s ts)
  | 0, _, _, _, h => h
  | f + 1, s, ts, hs, h => by
    unfold scanF
    split
    · exact h
    · split
      · exact h.chars _
      · rename_i _ hd
        have hb := headN_stop s hd
        have h1 := (markupS_in _ (charsK ts (decodeL (s.take (headN s)))) hb).rest
        have h3 : (s.drop (headN s)).length ≤ s.length := by simp
        exact NamesIn.scan f _ _ (by omega) ((h.chars _).markup _ (by omega))
theorem scanL_names (s : Bs) : NamesIn s.length (scanL s) := NamesIn.scan _ s [] (Nat.le_refl _) (fun _ h => by cases h)
theorem scanF_sum : ∀ (f : Nat) (s : Bs) (ts : List Tk), textsum (scanF f s ts) ≤ textsum ts + 4 * s.length
  | 0, s, ts => by simp [scanF]
  | f + 1, s, ts => by
    have a3 := charsK_sum ts (decodeL (s.take (headN s)))
    have a4 := decodeL_len (s.take (headN s))
    have a5 : (s.take (headN s)).length + (s.drop (headN s)).length = s.length := by simp; have := headN_le s; omega
    unfold scanF
    split
    · omega
    · split
      · omega
      · rename_i _ hd
        have hb := headN_stop s hd
        have h1 := markupS_in _ (charsK ts (decodeL (s.take (headN s)))) hb
        have h2 := scanF_sum f (markupS (s.drop (headN s)) (charsK ts (decodeL (s.take (headN s))))).1 (markupS (s.drop (headN s)) (charsK ts (decodeL (s.take (headN s))))).2
        have h3 := h1.sum; have h4 := h1.rest
        omega
theorem scanF_len : ∀ (f : Nat) (s : Bs) (ts : List Tk), (scanF f s ts).length ≤ ts.length + 3 * s.length
  | 0, s, ts => by simp [scanF]
  | f + 1, s, ts => by
    have a2 := charsK_len ts (decodeL (s.take (headN s)))
    have a3 := headN_le s
    unfold scanF
    split
    · omega
    · rename_i hs
      have hs' : s.length ≠ 0 := fun e => hs (List.eq_nil_of_length_eq_zero e)
      split
      · omega
      · rename_i hd
        have hb := headN_stop s hd
        have h1 := markupS_in _ (charsK ts (decodeL (s.take (headN s)))) hb
        have h2 := scanF_len f (markupS (s.drop (headN s)) (charsK ts (decodeL (s.take (headN s))))).1 (markupS (s.drop (headN s)) (charsK ts (decodeL (s.take (headN s))))).2
        have h3 := h1.len; have h4 := h1.rest
        have h5 := beginsB_pos hb
        have h6 : (s.drop (headN s)).length ≤ s.length := by simp
        omega
def stepZ (p : List Fm × Nat) (t : Tk) : List Fm × Nat :=
  if t.kind = 1 then charsZ p.1 p.2 t.text
  else if t.kind = 2 then startZ p.1 p.2 t.name t.attrs
  else if t.kind = 3 then (endZ p.1 t.name, p.2)
  else p
def buildZ (ts : List Tk) : List Fm × Nat := ts.foldl stepZ ([⟨[], [], []⟩], 0)
def rootK : List Fm → List Nd
  | [f] => f.kids
  | _ => []
def buildL (s : Bs) : List Nd := rootK (popTo ((buildZ (scanL s)).1.length - 1) (buildZ (scanL s)).1)
end Go.Proofs.YtdmmeinkligmcaaGreatDoor
