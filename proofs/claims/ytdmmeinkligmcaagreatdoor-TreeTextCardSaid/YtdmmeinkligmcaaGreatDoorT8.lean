/- Trees, as they lie in memory: parts, nodes. -/
import Derived.Test.YtdmmeinkligmcaaGreatDoorT7
set_option linter.unusedVariables false
set_option maxRecDepth 100000
set_option maxHeartbeats 2000000
namespace Go.Proofs.YtdmmeinkligmcaaGreatDoor
open Go.RowKit

inductive Nd where
  | mk (name : Bs) (attrs : List At) (text : Bs) (kids : List Nd)
mutual
/-- The records of a tree whose root is the part in block b. -/
inductive TR : Nd → Nat → List Rec → Prop
  | mk (name : Bs) (attrs : List At) (text : Bs) (kids : List Nd) (b : Nat) (av kv : Value) (bs : List Nat) (sub : List Rec) : FR kids bs sub → TR (.mk name attrs text kids) b (⟨b, name, attrs, av, text, kv, bs⟩ :: sub)
inductive FR : List Nd → List Nat → List Rec → Prop
  | nil : FR [] [] []
  | cons (k : Nd) (ks : List Nd) (b : Nat) (bs : List Nat) (s1 s2 : List Rec) : TR k b s1 → FR ks bs s2 → FR (k :: ks) (b :: bs) (s1 ++ s2)
end
mutual
/-- v is a slice of these nodes; the blocks of all rows of nodes satisfy P. -/
inductive NRow (w : World) (B : Nat) (P : Nat → Prop) : Value → List Nd → Prop
  | mk (v : Value) (ks : List Nd) (cs : List Value) : w.ownsRow B 33 4 v ks.length cs → (∀ k, v.ownBlock = some k → P k) → NCells w B P ks cs → NRow w B P v ks
inductive NCells (w : World) (B : Nat) (P : Nat → Prop) : List Nd → List Value → Prop
  | nil : NCells w B P [] []
  | cons (name : Bs) (attrs : List At) (text : Bs) (kids : List Nd) (av kv : Value) (ks : List Nd) (cs : List Value) : RA w B av attrs → NRow w B P kv kids → NCells w B P ks cs → NCells w B P (.mk name attrs text kids :: ks) (st name :: av :: st text :: kv :: cs)
end
/-- What keeps the rows of nodes (those that P names) and the rows of attributes keeps the nodes. -/
theorem nrow_kept {w w' : World} {B : Nat} {P Q : Nat → Prop} (hP : ∀ k, P k → Q k) (hN : ∀ (k : Nat) (cs : Array Value), P k → w.heap[k]? = some (.cells cs 33 (0, 0)) → w'.heap[k]? = w.heap[k]?) (hA : ∀ (k : Nat) (cs : Array Value), w.heap[k]? = some (.cells cs 37 (0, 0)) → w'.heap[k]? = w.heap[k]?) {v : Value} {ks : List Nd} (h : NRow w B P v ks) : NRow w' B Q v ks := by
  refine NRow.rec (w := w) (B := B) (P := P) (motive_1 := fun v ks _ => NRow w' B Q v ks) (motive_2 := fun ks cs _ => NCells w' B Q ks cs) ?_ ?_ ?_ h
  · intro v ks cs h1 h2 _ ih
    refine .mk v ks cs (own_kept h1 (fun k hk => ?_)) (fun k hk => hP k (h2 k hk)) ih
    obtain ⟨cs', hc⟩ := own_type h1 k hk
    exact hN k cs' (h2 k hk) hc
  · exact .nil
  · intro name attrs text kids av kv ks cs h1 _ _ ih1 ih2
    refine .cons name attrs text kids av kv ks cs (own_kept h1 (fun k hk => ?_)) ih1 ih2
    obtain ⟨cs', hc⟩ := own_type h1 k hk
    exact hA k cs' hc
theorem ncells_kept {w w' : World} {B : Nat} {P Q : Nat → Prop} (hP : ∀ k, P k → Q k) (hN : ∀ (k : Nat) (cs : Array Value), P k → w.heap[k]? = some (.cells cs 33 (0, 0)) → w'.heap[k]? = w.heap[k]?) (hA : ∀ (k : Nat) (cs : Array Value), w.heap[k]? = some (.cells cs 37 (0, 0)) → w'.heap[k]? = w.heap[k]?) {cs : List Value} {ks : List Nd} (h : NCells w B P ks cs) : NCells w' B Q ks cs := by
  refine NCells.rec (w := w) (B := B) (P := P) (motive_1 := fun v ks _ => NRow w' B Q v ks) (motive_2 := fun ks cs _ => NCells w' B Q ks cs) ?_ ?_ ?_ h
  · intro v ks cs h1 h2 _ ih
    refine .mk v ks cs (own_kept h1 (fun k hk => ?_)) (fun k hk => hP k (h2 k hk)) ih
    obtain ⟨cs', hc⟩ := own_type h1 k hk
    exact hN k cs' (h2 k hk) hc
  · exact .nil
  · intro name attrs text kids av kv ks cs h1 _ _ ih1 ih2
    refine .cons name attrs text kids av kv ks cs (own_kept h1 (fun k hk => ?_)) ih1 ih2
    obtain ⟨cs', hc⟩ := own_type h1 k hk
    exact hA k cs' hc
theorem ncells_snoc {w : World} {B : Nat} {P : Nat → Prop} {ks : List Nd} {cs : List Value} (h : NCells w B P ks cs) (name : Bs) (attrs : List At) (text : Bs) (kids : List Nd) (av kv : Value) (h1 : RA w B av attrs) (h2 : NRow w B P kv kids) : NCells w B P (ks ++ [.mk name attrs text kids]) (cs ++ [st name, av, st text, kv]) := by
  refine NCells.rec (w := w) (B := B) (P := P) (motive_1 := fun v ks _ => True) (motive_2 := fun ks cs _ => NCells w B P (ks ++ [.mk name attrs text kids]) (cs ++ [st name, av, st text, kv])) ?_ ?_ ?_ h
  · intros; trivial
  · exact .cons _ _ _ _ _ _ _ _ h1 h2 .nil
  · intro name attrs text kids av kv ks cs h1 h2 _ _ ih
    exact .cons name attrs text kids av kv _ _ h1 h2 ih
theorem fr_len {ks : List Nd} {bs : List Nat} {sub : List Rec} (h : FR ks bs sub) : bs.length = ks.length := by
  refine FR.rec (motive_1 := fun _ _ _ _ => True) (motive_2 := fun ks bs _ _ => bs.length = ks.length) ?_ ?_ ?_ h
  · intros; trivial
  · rfl
  · intro k ks b bs s1 s2 _ _ _ ih; simp [ih]
theorem fr_app {ks1 ks2 : List Nd} {bs1 bs2 : List Nat} {s1 s2 : List Rec} (h1 : FR ks1 bs1 s1) (h2 : FR ks2 bs2 s2) : FR (ks1 ++ ks2) (bs1 ++ bs2) (s1 ++ s2) := by
  refine FR.rec (motive_1 := fun _ _ _ _ => True) (motive_2 := fun ks bs s _ => FR (ks ++ ks2) (bs ++ bs2) (s ++ s2)) ?_ ?_ ?_ h1
  · intros; trivial
  · exact h2
  · intro k ks b bs s1 s2' ht _ _ ih
    rw [List.append_assoc]
    exact .cons k _ b _ s1 _ ht ih
/-- Only cells of the parts rs have turned; what is new lies behind. -/
structure Made (rs : List Rec) (w w' : World) : Prop where
  os : w'.os = w.os
  tape : w'.tape = w.tape
  output : w'.output = w.output
  size : w.heap.size ≤ w'.heap.size
  block : ∀ k, k < w.heap.size → k ∉ rs.map (·.blk) → w'.heap[k]? = w.heap[k]?
theorem Made.refl (rs : List Rec) (w : World) : Made rs w w := ⟨rfl, rfl, rfl, Nat.le_refl _, fun _ _ _ => rfl⟩
theorem Made.trans {rs : List Rec} {a b c : World} (h : Made rs a b) (h' : Made rs b c) : Made rs a c :=
  ⟨h'.os.trans h.os, h'.tape.trans h.tape, h'.output.trans h.output, Nat.le_trans h.size h'.size, fun k hk hn => (h'.block k (Nat.lt_of_lt_of_le hk h.size) hn).trans (h.block k hk hn)⟩
theorem Made.mono {rs rs' : List Rec} {w w' : World} (h : Made rs w w') (hs : ∀ r, r ∈ rs → r ∈ rs') : Made rs' w w' :=
  ⟨h.os, h.tape, h.output, h.size, fun k hk hn => h.block k hk (fun hm => hn (by obtain ⟨r, hr, e⟩ := List.mem_map.1 hm; exact List.mem_map.2 ⟨r, hs r hr, e⟩))⟩
theorem Made.below {rs : List Rec} {w w' : World} (h : Below w.heap.size w w') : Made rs w w' := ⟨h.os, h.tape, h.output, h.size, fun k hk _ => h.block k hk⟩
theorem Made.set {rs : List Rec} {w : World} {r : Rec} (hr : r ∈ rs) (j : Nat) (v : Value) : Made rs w (w.setCell ⟨r.blk, j, none⟩ v) := by
  have hb := (Below.refl 0 w).setCell (p := ⟨r.blk, j, none⟩) (Nat.zero_le _) v
  exact ⟨hb.os, hb.tape, hb.output, hb.size, fun k _ hn => Below.heap_setCell _ _ _ k (fun e => hn (List.mem_map.2 ⟨r, hr, e.symm⟩))⟩
end Go.Proofs.YtdmmeinkligmcaaGreatDoor
