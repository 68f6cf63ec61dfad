/- Lists of attributes in memory; slices.ContainsFunc as htok.attrs calls it. -/
import Derived.Test.YtdmmeinkligmcaaGreatDoorHtok1
import Derived.FnLit
set_option linter.unusedVariables false
set_option maxRecDepth 100000
set_option maxHeartbeats 1000000
namespace Go.Proofs.YtdmmeinkligmcaaGreatDoor
open Go.RowKit

structure At where
  name : Bs
  value : Bs
deriving DecidableEq
def st (l : Bs) : Value := .string ⟨l.toArray⟩
def atCells (l : List At) : List Value := l.flatMap fun a => [st a.name, st a.value]
/-- v is a slice of the attributes l, made by the call (from block base on). -/
def RA (w : World) (base : Nat) (v : Value) (l : List At) : Prop := w.ownsRow base 37 2 v l.length (atCells l)
theorem atCells_snoc (l : List At) (a : At) : atCells (l ++ [a]) = atCells l ++ [st a.name, st a.value] := by simp [atCells]
theorem atCells_get (l : List At) (k : Nat) (a : At) (h : l[k]? = some a) : (atCells l)[k * 2]? = some (st a.name) ∧ (atCells l)[k * 2 + 1]? = some (st a.value) := by
  induction l generalizing k with
  | nil => simp at h
  | cons b l ih =>
    cases k with
    | zero => simp at h; subst h; simp [atCells]
    | succ k =>
      have := ih k (by simpa using h)
      have e : atCells (b :: l) = st b.name :: st b.value :: atCells l := by simp [atCells]
      rw [e, show (k + 1) * 2 = k * 2 + 2 by omega, show k * 2 + 2 + 1 = (k * 2 + 1) + 2 by omega]
      simpa using this
theorem RA.nil (w : World) (base : Nat) : RA w base (.slice none 0 0) [] := ⟨by simp [atCells], .inl ⟨rfl, rfl⟩⟩
theorem add_plain (g j : Nat) : (⟨g, 0, none⟩ : Addr).add j = ⟨g, j, none⟩ := by unfold Addr.add; split <;> simp_all
theorem own_kept {w w' : World} {base : Nat} {e : TypeId} {size n : Nat} {v : Value} {xs : List Value} (h : w.ownsRow base e size v n xs) (hk : ∀ k, v.ownBlock = some k → w'.heap[k]? = w.heap[k]?) : w'.ownsRow base e size v n xs := by
  obtain ⟨h1, h2⟩ := h
  refine ⟨h1, ?_⟩
  rcases h2 with h2 | ⟨g, cap, cur, rfl, hg, hh, r⟩
  · exact .inl h2
  · exact .inr ⟨g, cap, cur, rfl, hg, (hk g (by simp [Value.ownBlock])).trans hh, r⟩
theorem own_lt {w : World} {base : Nat} {e : TypeId} {size n : Nat} {v : Value} {xs : List Value} (h : w.ownsRow base e size v n xs) (k : Nat) (hk : v.ownBlock = some k) : base ≤ k ∧ k < w.heap.size := by
  rcases h.2 with ⟨rfl, _⟩ | ⟨g, cap, cur, rfl, hb, hh, _⟩
  · simp [Value.ownBlock] at hk
  · have : g = k := by simpa [Value.ownBlock] using hk
    subst this
    exact ⟨hb, (Array.getElem?_eq_some_iff.1 hh).1⟩
theorem own_below {w w' : World} {base : Nat} {e : TypeId} {size n : Nat} {v : Value} {xs : List Value} (h : w.ownsRow base e size v n xs) (hb : Below w.heap.size w w') : w'.ownsRow base e size v n xs :=
  own_kept h (fun k hk => hb.block k (own_lt h k hk).2)
theorem RA.below {w w' : World} {base : Nat} {v : Value} {l : List At} (h : RA w base v l) (hb : Below w.heap.size w w') : RA w' base v l := own_below h hb
/-- The shape of what is owned, and its cells. -/
theorem own_form {w : World} {base : Nat} {e : TypeId} {size n : Nat} {v : Value} {xs : List Value} (h : w.ownsRow base e size v n xs) : ∃ A c, v = .slice A n c ∧ n ≤ c ∧ c ≤ maxLen ∧ (0 < n → ∃ g, A = some ⟨g, 0, none⟩ ∧ base ≤ g ∧ g < w.heap.size ∧ ∀ j u, xs[j]? = some u → w.cell? ⟨g, j, none⟩ = some u) := by
  have hc := h
  rcases h.2 with ⟨rfl, rfl⟩ | ⟨g, cap, cur, rfl, hb, hh, h1, h2, h3, h4⟩
  · exact ⟨none, 0, rfl, Nat.le_refl _, by unfold maxLen; omega, fun hp => absurd hp (by omega)⟩
  · refine ⟨_, cap, rfl, h1, h2, fun hp => ⟨g, rfl, hb, (Array.getElem?_eq_some_iff.1 hh).1, fun j u hj => ?_⟩⟩
    have := hc.cells (g := g) rfl j u hj
    rwa [add_plain] at this

theorem mk_eq_iff (a b : Bs) : (a == b) = ((⟨a.toArray⟩ : ByteArray).toList == (⟨b.toArray⟩ : ByteArray).toList) := by rw [Lib.toList_data, Lib.toList_data]
/-- The closure in htok.attrs: has an attribute the name of the one that it holds? -/
theorem attrs_fn (b : At) (p : Nat) (name : Bs) (w : World) (hp : w.cell? ⟨p, 0, none⟩ = some (st name)) :
    Calls Tryz.prog 113 #[.agg #[st b.name, st b.value], .pointer (some ⟨p, 0, none⟩)] w fun e w' => e = .returned (.bool (b.name == name)) ∧ Below w.heap.size w w' := by
  have hlt := block_lt hp
  simp only at hlt
  unfold st at *
  go_enter Tryz.func113, Tryz.ntmps113
  go_wp2
  go_ret
  exact ⟨rfl, (Below.refl _ _).alloc (Nat.le_refl _) _⟩

theorem attrs_index (l : List At) (base p : Nat) (name : Bs) (v : Value) (w : World) (hp : w.cell? ⟨p, 0, none⟩ = some (st name)) (hv : RA w base v l) (hlen : l.length ≤ 100) :
    Calls Tryz.prog 131 #[v, .func (.func 113) #[] #[.pointer (some ⟨p, 0, none⟩)]] w fun e w' => (∃ r : Int, e = .returned (.int .i64 r) ∧ decide (0 ≤ r) = l.any fun b => b.name == name) ∧ Below w.heap.size w w' := by
  obtain ⟨A, c, rfl, hnc, hcm, hrow⟩ := own_form hv
  have HROW := Lib.hid hrow; clear hrow
  have HP := Lib.hid hp
  unfold maxLen at hcm
  go_enter Tryz.func131, Tryz.ntmps131
  go_wp2_with fail
  go_loopw [8] (fun i wr => ∃ k : Nat, k ≤ l.length ∧ i = .int .i64 k ∧ Below w.heap.size w wr ∧ Hid (∀ j b, j < k → l[j]? = some b → (b.name == name) = false))
    (fun i _ => l.length - (intOf i).toNat)
  case atStart => exact ⟨0, Nat.zero_le _, rfl, Below.refl _ _, Lib.hid (fun j b hj => by omega)⟩
  case round =>
    obtain ⟨k, hk, rfl, hb, hh⟩ := hrel
    by_cases hlt : k < l.length
    · obtain ⟨g, rfl, -, hgs, hcells⟩ := HROW.out (by omega)
      obtain ⟨b, hbk⟩ : ∃ b, l[k]? = some b := ⟨l[k], List.getElem?_eq_getElem hlt⟩
      obtain ⟨hc0, hc1⟩ := atCells_get l k b hbk
      have d0 := cell_below hb (hcells _ _ hc0)
      have d1 := cell_below hb (hcells _ _ hc1)
      have HPB := Lib.hid (cell_below hb HP.out)
      have HBK := Lib.hid hbk
      clear hc0 hc1 hcells hbk hp
      unfold st at d0 d1
      go_wp2_with fail
      refine (attrs_fn b p name _ HPB.out).mono ?_
      rintro e w2 ⟨rfl, hb2⟩
      have hb2' := below_trans hb hb2
      cases hbn : b.name == name with
      | true =>
        have hany : (l.any fun b => b.name == name) = true := List.any_eq_true.2 ⟨b, List.mem_of_getElem? HBK.out, hbn⟩
        have HA := Lib.hid hany; clear hany hbn
        go_wp2_with fail
        go_ret
        exact ⟨⟨k, rfl, by rw [HA.out]; simp⟩, hb2'⟩
      | false =>
        have HB := Lib.hid hbn; clear hbn
        go_wp2_with fail
        go_roundw
        case rel =>
          refine ⟨k + 1, by omega, by go_num, hb2', Lib.hid (fun j b' hj hb' => ?_)⟩
          by_cases e : j = k
          · subst e; have := HBK.out; rw [hb'] at this; cases this; exact HB.out
          · exact hh.out j b' (by omega) hb'
        case measure => simp [intOf]; omega
    · obtain rfl : k = l.length := by omega
      have hany : (l.any fun b => b.name == name) = false := by
        rw [List.any_eq_false]
        intro b hm
        obtain ⟨j, hj, hjb⟩ := List.mem_iff_getElem.1 hm
        have := hh.out j b hj (by rw [List.getElem?_eq_getElem hj, hjb])
        simpa using this
      have HA := Lib.hid hany; clear hany hh
      go_wp2_with fail
      go_ret
      exact ⟨⟨-1, rfl, by rw [HA.out]; simp⟩, hb⟩

theorem attrs_contains (l : List At) (base p : Nat) (name : Bs) (v : Value) (w : World) (hp : w.cell? ⟨p, 0, none⟩ = some (st name)) (hv : RA w base v l) (hlen : l.length ≤ 100) :
    Calls Tryz.prog 112 #[v, .func (.func 113) #[] #[.pointer (some ⟨p, 0, none⟩)]] w fun e w' => e = .returned (.bool (l.any fun b => b.name == name)) ∧ Below w.heap.size w w' := by
  have HI := Lib.hid (attrs_index l base p name v w hp hv hlen)
  clear hp hv
  go_enter Tryz.func112, Tryz.ntmps112
  go_wp2_with fail
  refine HI.out.mono ?_
  rintro e w1 ⟨⟨r, rfl, hr⟩, hb1⟩
  have HR := Lib.hid hr; clear hr
  go_wp2_with fail
  go_ret
  exact ⟨ret_bool HR.out, hb1⟩
end Go.Proofs.YtdmmeinkligmcaaGreatDoor
