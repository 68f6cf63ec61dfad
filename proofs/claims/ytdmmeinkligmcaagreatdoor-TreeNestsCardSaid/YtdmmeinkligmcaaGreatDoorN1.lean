/- law.right: the walk. · No element stands in one that its begin closes, without a wall between. · law.inside: the walk. -/
import Derived.Test.YtdmmeinkligmcaaGreatDoorC1
import Derived.Test.YtdmmeinkligmcaaGreatDoorW4
import Derived.BigQuiet
set_option linter.unusedVariables false
set_option maxRecDepth 100000
set_option maxHeartbeats 2000000
namespace Go.Proofs.YtdmmeinkligmcaaGreatDoor
open Go.RowKit

theorem size_mkL (l : Bs) : (⟨l.toArray⟩ : ByteArray).size = l.length := by simp [ByteArray.size]
theorem right_nil (A : Option Addr) (c : Nat) (n : Int) (w : World) : Calls Tryz.prog 22 #[.slice A 0 c, .int .i64 n] w fun e w' => e = .returned (.bool true) ∧ w = w' := by
  go_enter Tryz.func22, Tryz.ntmps22
  go_wp2_with fail
  go_loopw [5] (fun vi wr => vi = .int .i64 0 ∧ wr = w) (fun _ _ => 0)
  case atStart => exact ⟨rfl, rfl⟩
  case round =>
    obtain ⟨rfl, rfl⟩ := hrel
    go_wp2_with fail
    go_ret
    exact ⟨rfl, rfl⟩
theorem depL_le_get : ∀ (l : List Nd) (i : Nat) (n : Bs) (a : List At) (t : Bs) (k : List Nd), l[i]? = some (.mk n a t k) → 1 + depL k ≤ depL l
  | [], i, _, _, _, _, h => by simp at h
  | x :: l, 0, n, a, t, k, h => by simp at h; subst h; simp only [depL, depN]; omega
  | x :: l, i + 1, n, a, t, k, h => by
    have := depL_le_get l i n a t k (by simpa using h)
    simp only [depL]; omega
theorem right_any (d : Nat) : ∀ (B : Nat) (P : Nat → Prop) (ks : List Nd) (v : Value) (m : Int) (w : World), d ≤ 100 → HM m w → okL ks → depL ks ≤ d → NRow w B P v ks →
    Calls Tryz.prog 22 #[v, .int .i64 d] w fun e w' => e = .returned (.bool true) ∧ w = w' := by
  induction d with
  | zero =>
    intro B P ks v m w _ hm hok hd hr
    obtain ⟨A, c, rfl, hlc, hcm, hcell⟩ := nrow_form hr
    have hk : ks = [] := by
      cases ks with
      | nil => rfl
      | cons x xs => obtain ⟨n, a, t, k⟩ := x; simp [depL] at hd
    subst hk
    exact right_nil _ _ _ _
  | succ d ih =>
    intro B P ks v m w hd1 hm hok hd hr
    obtain ⟨A, c, rfl, hlc, hcm, hcell⟩ := nrow_form hr
    by_cases hk0 : ks = []
    · subst hk0; exact right_nil _ _ _ _
    have hpos : 0 < ks.length := by cases ks with | nil => exact absurd rfl hk0 | cons => simp
    have hlen : ks.length ≤ 9223372036854775807 := by have : maxLen = 9223372036854775807 := rfl; omega
    have HC := Lib.hid hcell
    have IH := Lib.hid ih
    have HOK := Lib.hid hok
    have HD := Lib.hid hd
    have HMM := Lib.hid hm
    clear hcell ih hok hd hm hr hk0
    obtain ⟨D, hDe⟩ : ∃ D : Int, D = (d : Int) + 1 := ⟨_, rfl⟩
    rw [show ((d + 1 : Nat) : Int) = D by omega]
    have hD1 : 1 ≤ D := by omega
    have hD2 : D ≤ 100 := by omega
    have HDE := Lib.hid (show (d : Int) = D - 1 by omega)
    clear hDe
    have e0 : decide (D = 0) = false := by simp; omega
    have e0' : (D == 0) = false := beq_eq_false_iff_ne.2 (by omega)
    go_enter Tryz.func22, Tryz.ntmps22
    go_wp2_with fail
    go_loopw [5] (fun vi wr => ∃ i : Nat, i ≤ ks.length ∧ vi = .int .i64 i ∧ wr = w)
      (fun vi _ => ks.length - (intOf vi).toNat)
    case atStart => exact ⟨0, Nat.zero_le _, rfl, rfl⟩
    case round =>
      obtain ⟨i, hi, rfl, rfl⟩ := hrel
      by_cases hlt : i < ks.length
      · obtain ⟨⟨nm, aa, tx, kk⟩, hai⟩ : ∃ a, ks[i]? = some a := ⟨ks[i], List.getElem?_eq_getElem hlt⟩
        obtain ⟨g, av, kv, rfl, -, d0, d1, d2, d3, hra, hrk⟩ := HC.out i nm aa tx kk hai
        obtain ⟨hN, hadj⟩ := okL_get ks HOK.out i _ hai
        have hdk := depL_le_get ks i nm aa tx kk hai
        obtain ⟨Aa, ca, rfl, -, -, -⟩ := own_form hra
        have hrk' := hrk
        obtain ⟨Ak, ck, rfl, -, -, -⟩ := nrow_form hrk
        have HCALL := Lib.hid (IH.out B P kk (.slice Ak kk.length ck) m wr (by omega) HMM.out hN.2.2 (by have := HD.out; omega) hrk')
        rw [HDE.out] at HCALL
        have HN := Lib.hid hN
        have HADJ := Lib.hid hadj
        have HAI := Lib.hid hai
        clear hN hadj hai hra hrk hrk' hdk
        unfold st at *
        by_cases hn : nm = []
        · subst hn
          obtain ⟨q1, q2, q3⟩ := HN.out.1 rfl
          subst q2 q3
          have q1' : (tx == []) = false := by simpa using q1
          simp only [List.length_nil] at *
          cases i with
          | zero =>
            simp only [Nat.zero_mul, Nat.zero_add] at *
            go_wp2_with fail
            refine HCALL.out.mono ?_; rintro e w' ⟨rfl, rfl⟩
            go_wp2_with fail
            go_roundw
            case rel => exact ⟨1, by omega, by go_num, trivial⟩
            case measure => simp [intOf]; omega
          | succ j =>
            obtain ⟨⟨pn, pa, pt, pk⟩, hpi⟩ : ∃ a, ks[j]? = some a := ⟨ks[j]'(by omega), List.getElem?_eq_getElem (by omega)⟩
            obtain ⟨g', av', kv', hgg, -, p0, -, -, -, -, -⟩ := HC.out j pn pa pt pk hpi
            obtain rfl : g = g' := by simpa using hgg
            have hpn : (pn == []) = false := by have := HADJ.out rfl j _ rfl hpi; simpa [nameN] using this
            clear hgg hpi
            go_wp2_with fail
            refine HCALL.out.mono ?_; rintro e w' ⟨rfl, rfl⟩
            go_wp2_with fail
            go_roundw
            case rel => exact ⟨j + 2, by omega, by go_num, trivial⟩
            case measure => simp [intOf]; omega
        · obtain ⟨q0, q1, q2⟩ := HN.out.2.1 hn
          subst q1
          have hn' : (nm == []) = false := by simpa using hn
          cases kk with
          | nil =>
            simp only [List.length_nil] at *
            go_wp2_with fail
            refine HCALL.out.mono ?_; rintro e w' ⟨rfl, rfl⟩
            go_wp2_with fail
            go_roundw
            case rel => exact ⟨i + 1, by omega, by go_num, trivial⟩
            case measure => simp [intOf]; omega
          | cons k1 k2 =>
            have HV := Lib.hid (void_any ⟨nm.toArray⟩ m wr HMM.out (by rw [size_mkL]; omega))
            rw [show (⟨nm.toArray⟩ : ByteArray).data.toList = nm from rfl, q2 (by simp)] at HV
            simp only [List.length_cons] at *
            go_wp2_with fail
            refine HV.out.mono ?_; rintro e w' ⟨rfl, rfl⟩
            go_wp2_with fail
            refine HCALL.out.mono ?_; rintro e w' ⟨rfl, rfl⟩
            go_wp2_with fail
            go_roundw
            case rel => exact ⟨i + 1, by omega, by go_num, trivial⟩
            case measure => simp [intOf]; omega
      · obtain rfl : i = ks.length := by omega
        go_wp2_with fail
        go_ret
        exact ⟨rfl, rfl⟩
end Go.Proofs.YtdmmeinkligmcaaGreatDoor
set_option linter.unusedVariables false
set_option maxRecDepth 100000
set_option maxHeartbeats 2000000
namespace Go.Proofs.YtdmmeinkligmcaaGreatDoor

/-- Does a begin close one of these (the innermost first), without a wall between? -/
def hitR (name : Bs) : List Bs → Bool
  | [] => false
  | o :: os => if closesB name o then true else if wallB o then false else hitR name os
mutual
def niN : List Bs → Nd → Prop
  | op, .mk n _ _ k => n ≠ [] → hitR n op = false ∧ niL (n :: op) k
def niL : List Bs → List Nd → Prop
  | _, [] => True
  | op, x :: xs => niN op x ∧ niL op xs
end
theorem niL_app (op : List Bs) : ∀ (a b : List Nd), niL op (a ++ b) ↔ niL op a ∧ niL op b
  | [], b => by simp [niL]
  | x :: a, b => by
    have ih := niL_app op a b
    have e : niL op (x :: a ++ b) ↔ niN op x ∧ niL op (a ++ b) := by simp [niL]
    have e2 : niL op (x :: a) ↔ niN op x ∧ niL op a := by simp [niL]
    rw [e, ih, e2, and_assoc]
theorem niL_one (op : List Bs) (n : Bs) (a : List At) (t : Bs) (k : List Nd) : niL op [.mk n a t k] ↔ (n ≠ [] → hitR n op = false ∧ niL (n :: op) k) := by simp [niL, niN]
theorem niL_get : ∀ (op : List Bs) (l : List Nd), niL op l → ∀ (i : Nat) (n : Bs) (a : List At) (t : Bs) (k : List Nd), l[i]? = some (.mk n a t k) → n ≠ [] → hitR n op = false ∧ niL (n :: op) k
  | _, [], _, i, _, _, _, _, h => by simp at h
  | op, x :: l, h, 0, n, a, t, k, hx => by
    simp at hx; subst hx
    have h' : niN op (.mk n a t k) ∧ niL op l := by simpa only [niL] using h
    have h2 := h'.1
    simp only [niN] at h2
    exact h2
  | op, x :: l, h, i + 1, n, a, t, k, hx => by
    have h' : niN op x ∧ niL op l := by simpa only [niL] using h
    exact niL_get op l h'.2 i n a t k (by simpa using hx)
/-- The names of the open elements, the innermost first, without the root. -/
def opZ : List Fm → List Bs
  | [] => []
  | [_] => []
  | f :: g :: fs => f.name :: opZ (g :: fs)
def nsZ : List Fm → Prop
  | [] => False
  | [f] => niL [] f.kids
  | f :: g :: fs => hitR f.name (opZ (g :: fs)) = false ∧ niL (f.name :: opZ (g :: fs)) f.kids ∧ nsZ (g :: fs)
theorem nsZ_head : ∀ (f : Fm) (fs : List Fm), nsZ (f :: fs) → niL (opZ (f :: fs)) f.kids
  | f, [], h => h
  | f, g :: fs, h => h.2.1
theorem opZ_kids : ∀ (f : Fm) (fs : List Fm) (ks : List Nd), opZ ({ f with kids := ks } :: fs) = opZ (f :: fs)
  | f, [], ks => rfl
  | f, g :: fs, ks => rfl
theorem nsZ_kids : ∀ (f : Fm) (fs : List Fm) (ks : List Nd), nsZ (f :: fs) → niL (opZ (f :: fs)) ks → nsZ ({ f with kids := ks } :: fs)
  | f, [], ks, h, h1 => h1
  | f, g :: fs, ks, h, h1 => ⟨h.1, h1, h.2.2⟩
theorem popZ_ns : ∀ (z : List Fm), nsZ z → nsZ (popZ z)
  | [], h => h.elim
  | [f], h => h
  | f :: g :: fs, h => by
    obtain ⟨h1, h2, h3⟩ := h
    refine nsZ_kids g fs _ h3 ?_
    rw [niL_app, niL_one]
    exact ⟨nsZ_head g fs h3, fun _ => ⟨h1, h2⟩⟩
theorem popTo_ns : ∀ (n : Nat) (z : List Fm), nsZ z → nsZ (popTo n z)
  | 0, z, h => h
  | n + 1, z, h => popTo_ns n (popZ z) (popZ_ns z h)
theorem charsZ_ns (z : List Fm) (c : Nat) (t : Bs) (h : nsZ z) : nsZ (charsZ z c t).1 := by
  match z, h with
  | [], h => exact h.elim
  | f :: fs, h =>
    have hk := nsZ_head f fs h
    have fresh : (∀ n a x k, f.kids.getLast? = some (.mk n a x k) → n ≠ []) → nsZ (charsZ (f :: fs) c t).1 := by
      intro hl
      rw [charsZ_new f fs c t hl]
      split
      · exact h
      · refine nsZ_kids f fs _ h ?_
        rw [niL_app, niL_one]
        exact ⟨hk, fun e => absurd rfl e⟩
    rcases List.eq_nil_or_concat f.kids with e | ⟨l, k, e⟩
    · exact fresh (fun n a x k h => by rw [e] at h; simp at h)
    · rw [List.concat_eq_append] at e
      obtain ⟨n, a, x, ks⟩ := k
      by_cases hn : n = []
      · subst hn
        rw [charsZ_join f fs c t l a x ks e]
        refine nsZ_kids f fs _ h ?_
        rw [e, niL_app] at hk
        rw [niL_app, niL_one]
        exact ⟨hk.1, fun e => absurd rfl e⟩
      · exact fresh (fun n' a' x' k' h => by
          rw [e] at h
          simp at h
          rw [← h.1]; exact hn)
theorem shutI_app (so : Bs → Bool) (ns : List Bs) (x : Bs) : ∀ i, i < ns.length → shutI so (ns ++ [x]) i = shutI so ns i
  | 0, _ => rfl
  | i + 1, h => by
    have e : (ns ++ [x]).getD (i + 1) [] = ns.getD (i + 1) [] := by simp [List.getD_eq_getElem?_getD, List.getElem?_append, h]
    unfold shutI
    rw [e, shutI_app so ns x i (by omega)]
theorem shutI_hit (name : Bs) : ∀ (z : List Fm), shutI (closesB name) (namesZ z) (z.length - 1) = none → hitR name (opZ z) = false
  | [], _ => rfl
  | [f], _ => rfl
  | f :: g :: fs, h => by
    have e : namesZ (f :: g :: fs) = namesZ (g :: fs) ++ [f.name] := by simp [namesZ]
    have hl : (namesZ (g :: fs)).length = fs.length + 1 := by rw [namesZ_len]; rfl
    rw [e, show (f :: g :: fs).length - 1 = fs.length + 1 by simp] at h
    unfold shutI at h
    have eg : (namesZ (g :: fs) ++ [f.name]).getD (fs.length + 1) [] = f.name := by
      rw [List.getD_eq_getElem?_getD, List.getElem?_append_right (by omega), hl]; simp
    rw [eg] at h
    unfold opZ hitR
    split at h
    · cases h
    · rename_i h1
      rw [if_neg h1]
      split at h
      · rename_i h2; rw [if_pos h2]
      · rename_i h2
        rw [if_neg h2]
        rw [shutI_app _ _ _ _ (by omega)] at h
        exact shutI_hit name (g :: fs) (by simpa using h)
theorem shutAllF_end (so : Bs → Bool) : ∀ (f : Nat) (ns : List Bs), ns.length ≤ f → shutI so (shutAllF so f ns) ((shutAllF so f ns).length - 1) = none ∧ shutAllF so f ns = ns.take (shutAllF so f ns).length
  | 0, ns, h => by
    have : ns = [] := List.eq_nil_of_length_eq_zero (by omega)
    subst this
    exact ⟨rfl, rfl⟩
  | f + 1, ns, h => by
    unfold shutAllF
    cases hs : shutI so ns (ns.length - 1) with
    | none => exact ⟨hs, by simp⟩
    | some i =>
      have hi := shutI_lt so ns _ _ hs
      obtain ⟨h1, h2⟩ := shutAllF_end so f (ns.take i) (by simp; omega)
      refine ⟨h1, ?_⟩
      simp only
      rw [List.take_take] at h2
      have hle : (shutAllF so f (ns.take i)).length ≤ i := by
        rw [h2]; simp; omega
      rw [Nat.min_eq_left hle] at h2
      exact h2
theorem startZ_ns (z : List Fm) (c : Nat) (name : Bs) (attrs : List At) (h : nsZ z) : nsZ (startZ z c name attrs).1 := by
  have hz : 0 < z.length := by cases z with | nil => exact h.elim | cons => simp
  obtain ⟨s1, s2⟩ := shutAllF_len (closesB name) (namesZ z).length (namesZ z) (by rw [namesZ_len]; exact hz)
  have s1' : 0 < (shutAll (closesB name) (namesZ z)).length := s1
  have s2' : (shutAll (closesB name) (namesZ z)).length ≤ z.length := by rw [← namesZ_len z]; exact s2
  obtain ⟨e1, e2⟩ := shutAllF_end (closesB name) (namesZ z).length (namesZ z) (Nat.le_refl _)
  have e1' : shutI (closesB name) (shutAll (closesB name) (namesZ z)) ((shutAll (closesB name) (namesZ z)).length - 1) = none := e1
  have e2' : shutAll (closesB name) (namesZ z) = (namesZ z).take (shutAll (closesB name) (namesZ z)).length := e2
  have p1 := popTo_ns (z.length - (shutAll (closesB name) (namesZ z)).length) z h
  obtain ⟨pn, pl⟩ := namesZ_popTo (z.length - (shutAll (closesB name) (namesZ z)).length) z (by omega)
  have hk : z.length - (z.length - (shutAll (closesB name) (namesZ z)).length) = (shutAll (closesB name) (namesZ z)).length := by omega
  rw [hk] at pn pl
  rw [← e2'] at pn
  have hit : hitR name (opZ (popTo (z.length - (shutAll (closesB name) (namesZ z)).length) z)) = false := by
    refine shutI_hit name _ ?_
    rw [pn, pl]; exact e1'
  unfold startZ
  split
  · exact p1
  · generalize popTo (z.length - (shutAll (closesB name) (namesZ z)).length) z = z' at *
    match z', p1, hit with
    | [], p1, _ => exact p1.elim
    | f :: fs, p1, hit =>
      simp only
      split
      · refine ⟨hit, ?_, p1⟩
        simp [niL]
      · refine nsZ_kids f fs _ p1 ?_
        rw [niL_app, niL_one]
        exact ⟨nsZ_head f fs p1, fun _ => ⟨hit, by simp [niL]⟩⟩
theorem stepZ_ns (p : List Fm × Nat) (t : Tk) (h : nsZ p.1) : nsZ (stepZ p t).1 := by
  unfold stepZ
  split
  · exact charsZ_ns _ _ _ h
  · split
    · exact startZ_ns _ _ _ _ h
    · split
      · show nsZ (endZ p.1 t.name)
        unfold endZ
        split
        · exact popTo_ns _ _ h
        · exact h
      · exact h
theorem fold_ns : ∀ (ts : List Tk) (p : List Fm × Nat), nsZ p.1 → nsZ (ts.foldl stepZ p).1
  | [], p, h => h
  | t :: ts, p, h => fold_ns ts (stepZ p t) (stepZ_ns p t h)
theorem build_nests (s : Bs) : niL [] (buildL s) := by
  have h1 : nsZ (buildZ (scanL s)).1 := fold_ns (scanL s) ([⟨[], [], []⟩], 0) (by simp [nsZ, niL])
  unfold buildL
  have hz : 0 < (buildZ (scanL s)).1.length := by cases hp : (buildZ (scanL s)).1 with | nil => rw [hp] at h1; exact h1.elim | cons => simp
  have p1 := popTo_ns ((buildZ (scanL s)).1.length - 1) _ h1
  have pl := (namesZ_popTo ((buildZ (scanL s)).1.length - 1) (buildZ (scanL s)).1 (by omega)).2
  generalize popTo ((buildZ (scanL s)).1.length - 1) (buildZ (scanL s)).1 = z' at *
  match z', p1, pl with
  | [], p1, _ => exact p1.elim
  | [f], p1, _ => exact p1
  | f :: g :: fs, _, pl => simp at pl; omega
end Go.Proofs.YtdmmeinkligmcaaGreatDoor
set_option linter.unusedVariables false
set_option maxRecDepth 100000
set_option maxHeartbeats 2000000
namespace Go.Proofs.YtdmmeinkligmcaaGreatDoor
open Go.RowKit

theorem str_info : (Tryz.prog.info? 9).map (fun i => (i.zero, i.size, i.bytes)) = some (some (.string ⟨#[]⟩), 1, 16) := by kernel_rfl
theorem grown_below {w w' : World} {row : Option Nat} {base : Nat} (h : w.grownBy w' row) (hr : ∀ k, row = some k → base ≤ k) (hb : base ≤ w.heap.size) : Below base w w' :=
  ⟨h.os, h.tape, h.output, h.size, fun k hk => h.block k (by omega) (fun e => by have := hr k e.symm; omega)⟩
theorem own_ge {w : World} {base : Nat} {e : TypeId} {size n : Nat} {v : Value} {xs : List Value} (h : w.ownsRow base e size v n xs) : ∀ k, v.ownBlock = some k → base ≤ k := fun k hk => by
  rcases h.2 with ⟨rfl, _⟩ | ⟨g, cap, cur, rfl, hb, _⟩
  · cases hk
  · have : g = k := by simpa [Value.ownBlock] using hk
    omega
def strs (op : List Bs) : List Value := op.reverse.map st
/-- The open elements' names in memory. -/
def ORow (w : World) (C : Nat) (v : Value) (op : List Bs) : Prop := w.ownsRow C 9 1 v op.length (strs op)
theorem ORow.below {w w' : World} {C : Nat} {v : Value} {op : List Bs} (h : ORow w C v op) (hb : Below w.heap.size w w') : ORow w' C v op := own_kept h (fun k hk => by
  obtain ⟨cs, hc⟩ := own_type h k hk
  exact hb.block k (Array.getElem?_eq_some_iff.1 hc).1)
theorem strs_get (op : List Bs) (k j : Nat) (h : j < op.length) (hk : k = op.length - 1 - j) : (strs op)[k]? = some (st (op[j]'h)) := by
  subst hk
  rw [strs, List.getElem?_map, List.getElem?_reverse (by omega)]
  rw [show op.length - 1 - (op.length - 1 - j) = j by omega, List.getElem?_eq_getElem h]; rfl
theorem hitR_drop (name : Bs) (op : List Bs) (j : Nat) (h : j < op.length) (hh : hitR name (op.drop j) = false) : closesB name op[j] = false ∧ (wallB op[j] = false → hitR name (op.drop (j + 1)) = false) := by
  rw [List.drop_eq_getElem_cons h] at hh
  unfold hitR at hh
  split at hh
  · cases hh
  · rename_i h1
    refine ⟨by simpa using h1, fun hw => ?_⟩
    rw [hw] at hh
    simpa using hh
/-- The contract, of trees of fewer than N nodes. -/
def InsideOK (N : Nat) : Prop := ∀ (B C : Nat) (P : Nat → Prop) (ks : List Nd) (op : List Bs) (v vo : Value) (w : World), cntL ks < N → okL ks → niL op ks → op.length + depL ks ≤ 100 → (∀ o, o ∈ op → o.length ≤ 1000000) → NRow w B P v ks → ORow w C vo op → Glob w →
    Calls Tryz.prog 23 #[v, vo] w fun e w' => e = .returned (.bool false) ∧ Below w.heap.size w w'
theorem inside_nil (N : Nat) (ih : InsideOK N) (B : Nat) (P : Nat → Prop) (ks : List Nd) (v : Value) (w : World) (hN : cntL ks < N + 1) (hok : okL ks) (hni : niL [] ks) (hlen : depL ks ≤ 100) (hr : NRow w B P v ks) (hg : Glob w) :
    Calls Tryz.prog 23 #[v, .slice none 0 0] w fun e w' => e = .returned (.bool false) ∧ Below w.heap.size w w' := by
  obtain ⟨A, c, rfl, hlc, hcm, hcell⟩ := nrow_form hr
  have hkl : ks.length ≤ 9223372036854775807 := by have : maxLen = 9223372036854775807 := rfl; omega
  have HC := Lib.hid hcell
  have IH := Lib.hid ih
  have HOK := Lib.hid hok
  have HNI := Lib.hid hni
  have HLEN := Lib.hid hlen
  have HNN := Lib.hid hN
  have HG := Lib.hid hg
  clear hcell ih hok hni hlen hN hg hr
  go_enter Tryz.func23, Tryz.ntmps23
  go_wp2_with fail
  go_loopw [5] (fun vi wr => ∃ i : Nat, i ≤ ks.length ∧ vi = .int .i64 i ∧ Hid (Below w.heap.size w wr))
    (fun vi _ => ks.length - (intOf vi).toNat)
  case atStart => exact ⟨0, Nat.zero_le _, rfl, Lib.hid (Below.refl _ _)⟩
  case round =>
    obtain ⟨i, hi, rfl, hbw⟩ := hrel
    by_cases hlt : i < ks.length
    · obtain ⟨⟨nm, aa, tx, kk⟩, hai⟩ : ∃ a, ks[i]? = some a := ⟨ks[i], List.getElem?_eq_getElem hlt⟩
      obtain ⟨g, av, kv, rfl, -, d0, d1, d2, d3, hra, hrk⟩ := HC.out i nm aa tx kk hai
      obtain ⟨hN, -⟩ := okL_get ks HOK.out i _ hai
      have hdk := depL_le_get ks i nm aa tx kk hai
      have hcn := cntL_get ks i nm aa tx kk hai
      have hd0 := cell_below hbw.out d0
      have hd3 := cell_below hbw.out d3
      have HGW := Lib.hid (HG.out.below hbw.out)
      clear d0 d1 d2 d3
      unfold st at hd0
      by_cases hn : nm = []
      · subst hn
        clear hra hrk hai hN hdk hcn
        go_wp2_with fail
        go_roundw
        case rel => exact ⟨i + 1, by omega, by go_num, hbw⟩
        case measure => simp [intOf]; omega
      · obtain ⟨-, hsub⟩ := niL_get [] ks HNI.out i nm aa tx kk hai hn
        have hnl := (hN.2.1 hn).1
        have hrk' := nrow_below hrk hbw.out
        obtain ⟨Ak, ck, rfl, -, -, -⟩ := nrow_form hrk
        have HRK := Lib.hid hrk'
        have HSUB := Lib.hid hsub
        have HKO := Lib.hid hN.2.2
        have HDK := Lib.hid (And.intro hdk hcn)
        have hn' : (nm == []) = false := by simpa using hn
        clear hra hrk hrk' hai hN hdk hcn hsub hn
        go_wp2_with fail
        generalize wr = W0 at *
        go_loopw [6] (fun vk wq => vk = .int .i64 (-1) ∧ Hid (wq = W0)) (fun _ _ => 0)
        case atStart => exact ⟨rfl, Lib.hid rfl⟩
        case round =>
          obtain ⟨rfl, hwr⟩ := hrel
          have hA0 : wr.cell? ⟨g, i * 4, none⟩ = some (.string ⟨nm.toArray⟩) := by rw [hwr.out]; exact hd0
          have hA3 : wr.cell? ⟨g, i * 4 + 3, none⟩ = some (.slice Ak kk.length ck) := by rw [hwr.out]; exact hd3
          have HBA : Hid (Below w.heap.size w wr) := Lib.hid (by rw [hwr.out]; exact hbw.out)
          have HGA : Hid (Glob wr) := Lib.hid (by rw [hwr.out]; exact HGW.out)
          have HRA : Hid (NRow wr B P (.slice Ak kk.length ck) kk) := Lib.hid (by rw [hwr.out]; exact HRK.out)
          clear hwr
          generalize wr = WA at *
          obtain ⟨i0, hi0, hz0, hz1, hz2⟩ := info_parts str_info
          have HA3 := Lib.hid hA3
          have HNEW := Lib.hid (heap_alloc_new WA (.cells #[.string ⟨nm.toArray⟩] 9))
          have HROW := Lib.hid ((own_nil WA WA.heap.size 1 9).alloc (.cells #[.string ⟨nm.toArray⟩] 9))
          clear hA3
          go_wp2_with (at_builtin; refine wpList_append_own _ rfl _ _ 62 rfl WA.heap.size 9 i0 (.string ⟨#[]⟩) 1 16 Tryz.underlying62 hi0 hz0 hz1 hz2 rfl (by decide) (.slice none 0 0) 0 [] rfl HROW.out ⟨WA.heap.size, 0, none⟩ 1 1 [.string ⟨nm.toArray⟩] rfl rfl (World.news_of_block (cs := #[.string ⟨nm.toArray⟩]) (t := 9) (fr := (0, 0)) HNEW.out) (by intro u hu; simp at hu; subst hu; rfl) (by decide) (by decide) (by simp) ?_)
          intro v2 WC hown2 hgr2 _
          have hal := (Below.refl WA.heap.size WA).alloc (Nat.le_refl _) (.cells #[.string ⟨nm.toArray⟩] 9)
          have hb2 : Below WA.heap.size WA WC := hal.trans (grown_below hgr2 (fun k hk => by cases hk) (by simp))
          have hO2 : ORow WC WA.heap.size v2 [nm] := by
            have e : strs [nm] = [.string ⟨nm.toArray⟩] := by simp [strs, st]
            show WC.ownsRow WA.heap.size 9 1 v2 1 (strs [nm])
            rw [e]; exact hown2
          have hC3 := cell_below hb2 HA3.out
          have HCALL := Lib.hid (IH.out B WA.heap.size P kk [nm] (.slice Ak kk.length ck) v2 WC (by have := HDK.out.2.2; have := HNN.out; omega) HKO.out HSUB.out (by have := HDK.out.1; have := HLEN.out; simp only [List.length_cons, List.length_nil]; omega) (fun o ho => by rw [List.mem_singleton] at ho; subst ho; exact hnl) (nrow_below HRA.out hb2) hO2 (HGA.out.below hb2))
          have HB2 := Lib.hid (HBA.out.trans (hb2.mono HBA.out.size))
          clear hown2 hgr2 hal hb2 hO2
          go_wp2_with fail
          refine HCALL.out.mono ?_
          rintro e w3 ⟨rfl, hb3⟩
          have HB3 := Lib.hid (HB2.out.trans (hb3.mono HB2.out.size))
          clear hb3
          go_wp2_with fail
          go_roundw
          case rel => exact ⟨i + 1, by omega, by go_num, HB3⟩
          case measure => simp [intOf]; omega
    · obtain rfl : i = ks.length := by omega
      go_wp2_with fail
      go_ret
      exact ⟨rfl, hbw.out⟩
theorem inside_any (N : Nat) : InsideOK N := by
  induction N with
  | zero => intro B C P ks op v vo w h; omega
  | succ N ih =>
    intro B C P ks op v vo w hN hok hni hlen hnm hr ho hg
    rcases ho.2 with ⟨rfl, h0⟩ | ⟨go, co, cur, rfl, -, -, hoc, hom, -, -⟩
    · have hnil : op = [] := List.eq_nil_of_length_eq_zero h0
      subst hnil
      exact inside_nil N ih B P ks v w hN hok hni (by simpa using hlen) hr hg
    obtain ⟨A, c, rfl, hlc, hcm, hcell⟩ := nrow_form hr
    have hkl : ks.length ≤ 9223372036854775807 := by have : maxLen = 9223372036854775807 := rfl; omega
    have hol : op.length ≤ 100 := by omega
    have HC := Lib.hid hcell
    have HO : Hid (∀ j u, (strs op)[j]? = some u → w.cell? ⟨go, j, none⟩ = some u) := Lib.hid fun j u hju => by have := ho.cells (g := go) rfl j u hju; rwa [add_plain] at this
    have HOR := Lib.hid ho
    have IH := Lib.hid ih
    have HOK := Lib.hid hok
    have HNI := Lib.hid hni
    have HLEN := Lib.hid hlen
    have HNM := Lib.hid hnm
    have HNN := Lib.hid hN
    have HG := Lib.hid hg
    clear hcell ih hok hni hlen hnm hN hg hr ho
    go_enter Tryz.func23, Tryz.ntmps23
    go_wp2_with fail
    go_loopw [5] (fun vi wr => ∃ i : Nat, i ≤ ks.length ∧ vi = .int .i64 i ∧ Hid (Below w.heap.size w wr))
      (fun vi _ => ks.length - (intOf vi).toNat)
    case atStart => exact ⟨0, Nat.zero_le _, rfl, Lib.hid (Below.refl _ _)⟩
    case round =>
      obtain ⟨i, hi, rfl, hbw⟩ := hrel
      by_cases hlt : i < ks.length
      · obtain ⟨⟨nm, aa, tx, kk⟩, hai⟩ : ∃ a, ks[i]? = some a := ⟨ks[i], List.getElem?_eq_getElem hlt⟩
        obtain ⟨g, av, kv, rfl, -, d0, d1, d2, d3, hra, hrk⟩ := HC.out i nm aa tx kk hai
        obtain ⟨hN, -⟩ := okL_get ks HOK.out i _ hai
        have hdk := depL_le_get ks i nm aa tx kk hai
        have hcn := cntL_get ks i nm aa tx kk hai
        have hd0 := cell_below hbw.out d0
        have hd3 := cell_below hbw.out d3
        have HGW := Lib.hid (HG.out.below hbw.out)
        clear d0 d1 d2 d3
        unfold st at hd0
        by_cases hn : nm = []
        · subst hn
          clear hra hrk hai hN hdk hcn
          go_wp2_with fail
          go_roundw
          case rel => exact ⟨i + 1, by omega, by go_num, hbw⟩
          case measure => simp [intOf]; omega
        · obtain ⟨hhit, hsub⟩ := niL_get op ks HNI.out i nm aa tx kk hai hn
          have hnl := (hN.2.1 hn).1
          have hrk' := nrow_below hrk hbw.out
          obtain ⟨Ak, ck, rfl, -, -, -⟩ := nrow_form hrk
          have HRK := Lib.hid hrk'
          have HOR1 := Lib.hid (ORow.below HOR.out hbw.out)
          have HSUB := Lib.hid hsub
          have HKO := Lib.hid hN.2.2
          have HDK := Lib.hid (And.intro hdk hcn)
          have hn' : (nm == []) = false := by simpa using hn
          have HHIT := Lib.hid hhit
          clear hra hrk hrk' hai hN hdk hcn hhit hsub hn
          go_wp2_with fail
          generalize wr = W0 at *
          go_loopw [6] (fun vk wr => ∃ j n : Nat, j ≤ op.length ∧ vk = .int .i64 ((op.length : Int) - 1 - j) ∧ Hid (wr = W0.drewN n) ∧ Hid (hitR nm (op.drop j) = false))
            (fun vk _ => (intOf vk + 1).toNat)
          case atStart => exact ⟨0, 0, Nat.zero_le _, by simp, Lib.hid rfl, HHIT⟩
          case round =>
            obtain ⟨j, n, hj, rfl, hwr, hh⟩ := hrel
            have hd0' : wr.cell? ⟨g, i * 4, none⟩ = some (.string ⟨nm.toArray⟩) := by rw [hwr.out]; exact hd0
            have hd3' : wr.cell? ⟨g, i * 4 + 3, none⟩ = some (.slice Ak kk.length ck) := by rw [hwr.out]; exact hd3
            by_cases hjl : j < op.length
            · obtain ⟨k, hk⟩ : ∃ k : Nat, k = op.length - 1 - j := ⟨_, rfl⟩
              have hki : ((op.length : Int) - 1 - j) = (k : Int) := by omega
              rw [hki]
              have hcw := cell_below hbw.out (HO.out k _ (strs_get op k j hjl hk))
              have hcq : wr.cell? ⟨go, k, none⟩ = some (.string ⟨(op[j]).toArray⟩) := by rw [hwr.out]; exact hcw
              obtain ⟨c1, c2⟩ := hitR_drop nm op j hjl hh.out
              have HC2 := Lib.hid c2
              obtain ⟨m, hm⟩ := HGW.out.maxlen
              have hol2 := HNM.out op[j] (List.getElem_mem hjl)
              have HCL : Hid (∀ t, Calls Tryz.prog 18 #[.string ⟨nm.toArray⟩, .string ⟨(op[j]).toArray⟩] (wr.drewN t) fun e w' => e = .returned (.bool false) ∧ w' = wr.drewN t) := Lib.hid fun t => (closes_any ⟨nm.toArray⟩ ⟨(op[j]).toArray⟩ m (wr.drewN t) (by rw [hwr.out]; exact hm) (by rw [size_mkL]; omega) (by rw [size_mkL]; omega)).mono fun e w' h => ⟨by rw [h.1]; exact ret_bool c1, h.2.symm⟩
              have HJ := Lib.hid (And.intro hjl hk)
              have hkb : k < op.length := by omega
              generalize hoj : op[j] = oj at *
              have HOJ := Lib.hid hoj
              clear hcw c1 c2 hm hol2 hoj hk hki
              go_wp2_with fail
              go_quiet ((go_at_call 18; exact Calls.quiet_of_same (HCL.out _)))
              go_wp2_with fail
              refine (lwall_any _ _).mono ?_
              rintro e w' ⟨rfl, rfl⟩
              rw [show isOne wallsL (⟨oj.toArray⟩ : ByteArray).data.toList = wallB oj from rfl]
              cases hwb : wallB oj with
              | true =>
                have hA0 : (wr.drewN nq).cell? ⟨g, i * 4, none⟩ = some (.string ⟨nm.toArray⟩) := hd0'
                have hA3 : (wr.drewN nq).cell? ⟨g, i * 4 + 3, none⟩ = some (.slice Ak kk.length ck) := hd3'
                have hBW : Below W0.heap.size W0 (wr.drewN nq) := by rw [hwr.out]; exact below_drewN (below_drewN (Below.refl _ _) _) _
                have HBA := Lib.hid (hbw.out.trans (hBW.mono hbw.out.size))
                have HGA := Lib.hid (HGW.out.below hBW)
                have HRA := Lib.hid (nrow_below HRK.out hBW)
                have HOA := Lib.hid (ORow.below HOR1.out hBW)
                clear hBW hd0' hd3' hwr hh HCL HC2 HJ HOJ hcq hwb
                generalize wr.drewN nq = WA at *
                obtain ⟨i0, hi0, hz0, hz1, hz2⟩ := info_parts str_info
                have hcl : ∀ j u, (strs op)[j]? = some u → WA.cell? ((⟨go, 0, none⟩ : Addr).add j) = some u := fun j u hju => by
                  have := HOA.out.cells (g := go) rfl j u hju
                  exact this
                go_wp2_with (at_builtin; refine wpList_append_own _ rfl _ _ 62 rfl WA.heap.size 9 i0 (.string ⟨#[]⟩) 1 16 Tryz.underlying62 hi0 hz0 hz1 hz2 rfl (by decide) (.slice none 0 0) 0 [] rfl (own_nil _ _ _ _) ⟨go, 0, none⟩ op.length co (strs op) rfl (by simp [strs]) hcl (by intro u hu; simp only [strs, List.mem_map] at hu; obtain ⟨q, -, rfl⟩ := hu; rfl) (by unfold maxLen; omega) (by omega) (Nat.le_refl _) ?_)
                intro vm WB hown1 hgr1 _
                try rw [Nat.zero_add, List.nil_append] at hown1
                have hb1 : Below WA.heap.size WA WB := grown_below hgr1 (fun k hk => by cases hk) (Nat.le_refl _)
                clear hcl hgr1
                have hbs := hb1.size
                have hB0 := cell_below hb1 hA0
                have HA3 := Lib.hid hA3
                have HB1 := Lib.hid hb1
                have HOW1 := Lib.hid hown1
                have HNEW := Lib.hid (heap_alloc_new WB (.cells #[.string ⟨nm.toArray⟩] 9))
                have HROW := Lib.hid (hown1.alloc (.cells #[.string ⟨nm.toArray⟩] 9))
                clear hb1 hown1 hA0 hA3
                go_wp2_with (at_builtin; refine wpList_append_own _ rfl _ _ 62 rfl WA.heap.size 9 i0 (.string ⟨#[]⟩) 1 16 Tryz.underlying62 hi0 hz0 hz1 hz2 rfl (by decide) vm op.length (strs op) rfl HROW.out ⟨WB.heap.size, 0, none⟩ 1 1 [.string ⟨nm.toArray⟩] rfl rfl (World.news_of_block (cs := #[.string ⟨nm.toArray⟩]) (t := 9) (fr := (0, 0)) HNEW.out) (by intro u hu; simp at hu; subst hu; rfl) (by unfold maxLen; omega) (by omega) (by first | (simp; done) | (simp; omega)) ?_)
                intro v2 WC hown2 hgr2 _
                have hal := (Below.refl WA.heap.size WB).alloc hbs (.cells #[.string ⟨nm.toArray⟩] 9)
                have hb2 : Below WA.heap.size WA WC := (HB1.out.trans hal).trans (grown_below hgr2 (own_ge HOW1.out) (by first | (simp; done) | (simp; omega)))
                have hO2 : ORow WC WA.heap.size v2 (nm :: op) := by
                  have e : strs (nm :: op) = strs op ++ [.string ⟨nm.toArray⟩] := by simp [strs, st]
                  show WC.ownsRow WA.heap.size 9 1 v2 (op.length + 1) (strs (nm :: op))
                  rw [e]; exact hown2
                have hC3 := cell_below hb2 HA3.out
                have HCALL := Lib.hid (IH.out B WA.heap.size P kk (nm :: op) (.slice Ak kk.length ck) v2 WC (by have := HDK.out.2.2; have := HNN.out; omega) HKO.out HSUB.out (by have := HDK.out.1; have := HLEN.out; simp only [List.length_cons]; omega) (fun o ho => by rcases List.mem_cons.1 ho with rfl | ho; exact hnl; exact HNM.out o ho) (nrow_below HRA.out hb2) hO2 (HGA.out.below hb2))
                have HB2 := Lib.hid (HBA.out.trans (hb2.mono HBA.out.size))
                clear hown2 hgr2 hal hb2 hO2 hbs hB0
                go_wp2_with fail
                refine HCALL.out.mono ?_
                rintro e w3 ⟨rfl, hb3⟩
                have HB3 := Lib.hid (HB2.out.trans (hb3.mono HB2.out.size))
                clear hb3
                go_wp2_with fail
                go_roundw
                case rel => exact ⟨i + 1, by omega, by go_num, HB3⟩
                case measure => simp [intOf]; omega
              | false =>
                have HWB := Lib.hid hwb
                clear hwb
                go_wp2_with fail
                go_roundw
                case rel => exact ⟨j + 1, n + nq, by omega, (by have := HJ.out; simp only [Value.int.injEq, true_and]; omega), Lib.hid (by rw [hwr.out, World.drewN_drewN]), Lib.hid (HC2.out HWB.out)⟩
                case measure => simp [intOf]
            · obtain rfl : j = op.length := by omega
              rw [show ((op.length : Int) - 1 - (op.length : Nat)) = -1 by omega]
              have hA0 : wr.cell? ⟨g, i * 4, none⟩ = some (.string ⟨nm.toArray⟩) := hd0'
              have hA3 : wr.cell? ⟨g, i * 4 + 3, none⟩ = some (.slice Ak kk.length ck) := hd3'
              have hBW : Below W0.heap.size W0 wr := by rw [hwr.out]; exact below_drewN (Below.refl _ _) _
              have HBA := Lib.hid (hbw.out.trans (hBW.mono hbw.out.size))
              have HGA := Lib.hid (HGW.out.below hBW)
              have HRA := Lib.hid (nrow_below HRK.out hBW)
              have HOA := Lib.hid (ORow.below HOR1.out hBW)
              clear hBW hd0' hd3' hwr hh
              generalize wr = WA at *
              obtain ⟨i0, hi0, hz0, hz1, hz2⟩ := info_parts str_info
              have hcl : ∀ j u, (strs op)[j]? = some u → WA.cell? ((⟨go, 0, none⟩ : Addr).add j) = some u := fun j u hju => by
                have := HOA.out.cells (g := go) rfl j u hju
                exact this
              go_wp2_with (at_builtin; refine wpList_append_own _ rfl _ _ 62 rfl WA.heap.size 9 i0 (.string ⟨#[]⟩) 1 16 Tryz.underlying62 hi0 hz0 hz1 hz2 rfl (by decide) (.slice none 0 0) 0 [] rfl (own_nil _ _ _ _) ⟨go, 0, none⟩ op.length co (strs op) rfl (by simp [strs]) hcl (by intro u hu; simp only [strs, List.mem_map] at hu; obtain ⟨q, -, rfl⟩ := hu; rfl) (by unfold maxLen; omega) (by omega) (Nat.le_refl _) ?_)
              intro vm WB hown1 hgr1 _
              try rw [Nat.zero_add, List.nil_append] at hown1
              have hb1 : Below WA.heap.size WA WB := grown_below hgr1 (fun k hk => by cases hk) (Nat.le_refl _)
              clear hcl hgr1
              have hbs := hb1.size
              have hB0 := cell_below hb1 hA0
              have HA3 := Lib.hid hA3
              have HB1 := Lib.hid hb1
              have HOW1 := Lib.hid hown1
              have HNEW := Lib.hid (heap_alloc_new WB (.cells #[.string ⟨nm.toArray⟩] 9))
              have HROW := Lib.hid (hown1.alloc (.cells #[.string ⟨nm.toArray⟩] 9))
              clear hb1 hown1 hA0 hA3
              go_wp2_with (at_builtin; refine wpList_append_own _ rfl _ _ 62 rfl WA.heap.size 9 i0 (.string ⟨#[]⟩) 1 16 Tryz.underlying62 hi0 hz0 hz1 hz2 rfl (by decide) vm op.length (strs op) rfl HROW.out ⟨WB.heap.size, 0, none⟩ 1 1 [.string ⟨nm.toArray⟩] rfl rfl (World.news_of_block (cs := #[.string ⟨nm.toArray⟩]) (t := 9) (fr := (0, 0)) HNEW.out) (by intro u hu; simp at hu; subst hu; rfl) (by unfold maxLen; omega) (by omega) (by first | (simp; done) | (simp; omega)) ?_)
              intro v2 WC hown2 hgr2 _
              have hal := (Below.refl WA.heap.size WB).alloc hbs (.cells #[.string ⟨nm.toArray⟩] 9)
              have hb2 : Below WA.heap.size WA WC := (HB1.out.trans hal).trans (grown_below hgr2 (own_ge HOW1.out) (by first | (simp; done) | (simp; omega)))
              have hO2 : ORow WC WA.heap.size v2 (nm :: op) := by
                have e : strs (nm :: op) = strs op ++ [.string ⟨nm.toArray⟩] := by simp [strs, st]
                show WC.ownsRow WA.heap.size 9 1 v2 (op.length + 1) (strs (nm :: op))
                rw [e]; exact hown2
              have hC3 := cell_below hb2 HA3.out
              have HCALL := Lib.hid (IH.out B WA.heap.size P kk (nm :: op) (.slice Ak kk.length ck) v2 WC (by have := HDK.out.2.2; have := HNN.out; omega) HKO.out HSUB.out (by have := HDK.out.1; have := HLEN.out; simp only [List.length_cons]; omega) (fun o ho => by rcases List.mem_cons.1 ho with rfl | ho; exact hnl; exact HNM.out o ho) (nrow_below HRA.out hb2) hO2 (HGA.out.below hb2))
              have HB2 := Lib.hid (HBA.out.trans (hb2.mono HBA.out.size))
              clear hown2 hgr2 hal hb2 hO2 hbs hB0
              go_wp2_with fail
              refine HCALL.out.mono ?_
              rintro e w3 ⟨rfl, hb3⟩
              have HB3 := Lib.hid (HB2.out.trans (hb3.mono HB2.out.size))
              clear hb3
              go_wp2_with fail
              go_roundw
              case rel => exact ⟨i + 1, by omega, by go_num, HB3⟩
              case measure => simp [intOf]; omega
      · obtain rfl : i = ks.length := by omega
        go_wp2_with fail
        go_ret
        exact ⟨rfl, hbw.out⟩
end Go.Proofs.YtdmmeinkligmcaaGreatDoor
