/- ent.Decode: references read. -/
import Derived.Test.YtdmmeinkligmcaaGreatDoorEnt
set_option linter.unusedVariables false
set_option maxRecDepth 100000
set_option maxHeartbeats 1000000
namespace Go.Proofs.YtdmmeinkligmcaaGreatDoor
open Go.RowKit

/-- A text cut at the first sign c. -/
def cutB (c : UInt8) : Bs → Bs × Bs × Bool
  | [] => ([], [], false)
  | b :: l => if b = c then ([], l, true) else (b :: (cutB c l).1, (cutB c l).2.1, (cutB c l).2.2)
theorem cut_eq (c : UInt8) (l : Bs) : Lib.cut l [c] = cutB c l := by
  induction l with
  | nil => rfl
  | cons b l ih =>
    unfold cutB
    have hi : Lib.index (b :: l) [c] = if b = c then 0 else if Lib.index l [c] == -1 then -1 else Lib.index l [c] + 1 := by
      simp only [Lib.index, List.isPrefixOf, Bool.and_true, beq_iff_eq]
      by_cases h : b = c
      · rw [if_pos h, if_pos h.symm]
      · rw [if_neg h, if_neg (fun e => h e.symm)]
    have hge := Lib.index_ge l [c]
    by_cases h : b = c
    · rw [if_pos h] at hi
      simp only [Lib.cut, hi, if_pos h]
      simp
    · rw [if_neg h] at hi ⊢
      rw [← ih]
      by_cases h0 : Lib.index l [c] = -1
      · rw [h0] at hi
        simp [Lib.cut, hi, h0]
      · have hi' : Lib.index (b :: l) [c] = Lib.index l [c] + 1 := by rw [hi, if_neg (by simpa using h0)]
        have h1 : 0 ≤ Lib.index l [c] := by omega
        simp only [Lib.cut, hi', if_pos h1, if_pos (show 0 ≤ Lib.index l [c] + 1 by omega)]
        have h2 : (Lib.index l [c] + 1).toNat = (Lib.index l [c]).toNat + 1 := by omega
        simp [h2]
theorem cutB_len (c : UInt8) (l : Bs) : (cutB c l).1.length + (cutB c l).2.1.length + (if (cutB c l).2.2 then 1 else 0) = l.length := by
  induction l with
  | nil => rfl
  | cons b l ih =>
    unfold cutB
    split
    · simp
    · simp only [List.length_cons]; omega
/-- ent.Decode, in so many rounds. -/
def decodeF : Nat → Bs → Bs
  | 0, _ => []
  | f + 1, s =>
    if (cutB 38 s).2.2 then
      match (cutB 59 (cutB 38 s).2.1).2.2, signL (cutB 59 (cutB 38 s).2.1).1 with
      | true, some t => (cutB 38 s).1 ++ (t ++ decodeF f (cutB 59 (cutB 38 s).2.1).2.1)
      | _, _ => (cutB 38 s).1 ++ (38 :: decodeF f (cutB 38 s).2.1)
    else (cutB 38 s).1
def decodeL (s : Bs) : Bs := decodeF (s.length + 1) s
theorem decodeF_more : ∀ (f g : Nat) (s : Bs), s.length < f → s.length < g → decodeF f s = decodeF g s
  | 0, _, _, h, _ => by omega
  | _, 0, _, _, h => by omega
  | f + 1, g + 1, s, hf, hg => by
    have h1 := cutB_len 38 s
    have h2 := cutB_len 59 (cutB 38 s).2.1
    unfold decodeF
    split
    · rename_i h; rw [h] at h1; simp only [if_true] at h1
      have e1 := decodeF_more f g (cutB 59 (cutB 38 s).2.1).2.1 (by omega) (by omega)
      have e2 := decodeF_more f g (cutB 38 s).2.1 (by omega) (by omega)
      rw [e1, e2]
    · rfl
theorem encodeRune_len (r : Int) : (Lib.encodeRune r).length ≤ 4 := by
  have := (Lib.runeCells_le r).2; rw [Lib.runeCells_length] at this; exact this
theorem signL_len (s t : Bs) (h : signL s = some t) : t.length ≤ 4 := by
  have hnum : ∀ n, (numberedL n).length ≤ 4 := by
    intro n
    unfold numberedL
    split
    · decide
    · split
      · have := singlesL_len [UInt8.ofNat n]; simpa using this
      · exact encodeRune_len _
  unfold signL at h
  split at h
  · obtain ⟨n, _, rfl⟩ := Option.map_eq_some_iff.1 h; exact hnum n
  · obtain ⟨n, _, rfl⟩ := Option.map_eq_some_iff.1 h; exact encodeRune_len _

def szOf : Value → Nat | .string s => s.size | _ => 0
theorem bf_drewN {B b : Nat} {bs : List Value} {w : World} (h : BF B b bs w) (n : Nat) : BF B b bs (w.drewN n) := by
  rcases h with ⟨h1, v, h2, h3, h4⟩ | ⟨h1, v, h2, h3, h4⟩
  · exact .inl ⟨h1, v, h2, h3, h4⟩
  · exact .inr ⟨h1, v, h2, h3, h4⟩
theorem bf_below {B b : Nat} {bs : List Value} {w w' : World} (h : BF B b bs w) (hb : Below w.heap.size w w') : BF B b bs w' := by
  have key : ∀ k o, w.heap[k]? = some o → w'.heap[k]? = some o := fun k o hk => by
    rw [hb.block k (Array.getElem?_eq_some_iff.1 hk).1]; exact hk
  have hown : ∀ v, w.ownsRowF B 5 1 v bs.length bs → w'.ownsRowF B 5 1 v bs.length bs := by
    rintro v ⟨h1, h2⟩
    refine ⟨h1, ?_⟩
    rcases h2 with h2 | ⟨g, cap, cur, fz, e, hB, hg, r⟩
    · exact .inl h2
    · exact .inr ⟨g, cap, cur, fz, e, hB, key _ _ hg, r⟩
  rcases h with ⟨h1, v, h2, h3, h4⟩ | ⟨h1, v, h2, h3, h4⟩
  · exact .inl ⟨h1, v, key _ _ h2, hown _ h3, h4⟩
  · exact .inr ⟨h1, v, key _ _ h2, hown _ h3, h4⟩
theorem strCells_bytes (l : Bs) : Lib.strCells ⟨l.toArray⟩ = Lib.byteCells l := by simp [Lib.strCells, Lib.byteCells]
theorem byteCells_app (a b : Bs) : Lib.byteCells (a ++ b) = Lib.byteCells a ++ Lib.byteCells b := by simp [Lib.byteCells]
theorem below_trans_at {B : Nat} {w w1 w2 : World} (h : Below B w w1) (k : Below w1.heap.size w1 w2) (hB : B ≤ w1.heap.size := by omega) : Below B w w2 := h.trans (k.mono hB)
theorem size_mk (l : Bs) : (⟨l.toArray⟩ : ByteArray).size = l.length := by simp [ByteArray.size]

theorem decode_any (s : ByteArray) (w : World) (hg : Glob w) (hs : s.size ≤ 4000000000) :
    Calls Tryz.prog 45 #[.string s] w fun e w' => e = .returned (.string ⟨(decodeL s.data.toList).toArray⟩) ∧ Below w.heap.size w w' := by
  have hf := bf_fresh w
  have hg0 : Glob (w.alloc (.cells #[.pointer none, .slice none 0 0] 83)) := hg.below ((Below.refl _ _).alloc (Nat.le_refl _) _)
  go_enter Tryz.func45, Tryz.ntmps45
  go_wp2_with fail
  go_loopw [0] (fun v wr => ∃ (t : ByteArray) (acc : Bs), v = .string t ∧ t.size ≤ s.size ∧ BF w.heap.size w.heap.size (Lib.byteCells acc) wr ∧ Below w.heap.size w wr ∧ acc.length + 4 * t.size ≤ 4 * s.size ∧ decodeL s.data.toList = acc ++ decodeL t.data.toList)
    (fun v _ => szOf v)
  case atStart => exact ⟨s, [], rfl, Nat.le_refl _, hf, (Below.refl _ _).alloc (Nat.le_refl _) _, by simp, rfl⟩
  case round =>
    obtain ⟨t, acc, rfl, hts, hbf, hb, hacc, hdec⟩ := hrel
    obtain ⟨m, hm⟩ := (hg.below hb).maxlen
    have HM' := Lib.hid hm; have HD := Lib.hid hdec; have HG := Lib.hid (hg.below hb)
    have hsz := hb.size
    clear hm hdec hf hg0
    go_wp2_with fail
    refine (Tryz.strings_Cut _ _ m _ (by omega) HM'.out).mono ?_
    rintro e w1 ⟨rfl, n1, rfl⟩
    rw [show Lib.cut t.data.toList (⟨#[38]⟩ : ByteArray).data.toList = cutB 38 t.data.toList from cut_eq 38 _]
    have hl1 := cutB_len 38 t.data.toList
    have hdl : decodeL t.data.toList = decodeF (t.data.toList.length + 1) t.data.toList := rfl
    unfold decodeF at hdl
    have htl : t.data.toList.length = t.size := by simp
    rw [htl] at hl1 hdl
    generalize cutB 38 t.data.toList = q at *
    obtain ⟨ahead, rest, is⟩ := q
    simp only at hl1 hdl ⊢
    have hbf1 := bf_drewN hbf n1
    have hb1 := below_drewN hb n1
    have hlen1 : (Lib.byteCells acc).length + (⟨ahead.toArray⟩ : ByteArray).size ≤ 140737488355328 := by rw [byteCells_len, size_mk]; omega
    have HL1 := Lib.hid hl1; have HDL := Lib.hid hdl; have HTL := Lib.hid htl
    have HLEN1 := Lib.hid hlen1
    clear hl1 hdl htl hlen1
    go_wp2_with fail
    refine (writeString_k w.heap.size w.heap.size _ _ _ hbf1 HLEN1.out hsz).mono ?_
    rintro e w2 ⟨rfl, hbf2, hb2, -⟩
    rw [strCells_bytes, ← byteCells_app] at hbf2
    have hb2' := hb1.trans hb2
    clear hbf hbf1 hb1 hb2
    cases is with
    | false =>
      have hd : decodeL t.data.toList = ahead := by rw [HDL.out]; rfl
      go_wp2_with fail
      refine (Tryz.Builder_String_any_k w.heap.size w.heap.size (acc ++ ahead) _ hbf2 hb2'.size).mono ?_
      rintro e w3 ⟨rfl, -, hb3, -⟩
      go_wp2_with fail
      go_ret
      refine ⟨?_, hb2'.trans hb3⟩
      rw [HD.out, hd]; rfl
    | true =>
      obtain ⟨m2, hm2⟩ := (hg.below hb2').maxlen
      have HM2 := Lib.hid hm2; have HG2 := Lib.hid (hg.below hb2')
      have hsz2 := hb2'.size
      clear hm2
      have hrs : rest.length < t.size := by have := HL1.out; simp at this; omega
      go_wp2_with fail
      refine (Tryz.strings_Cut _ _ m2 _ (by rw [size_mk]; omega) HM2.out).mono ?_
      rintro e w3 ⟨rfl, n3, rfl⟩
      rw [show Lib.cut (⟨rest.toArray⟩ : ByteArray).data.toList (⟨#[59]⟩ : ByteArray).data.toList = cutB 59 rest from cut_eq 59 _]
      have hl2 := cutB_len 59 rest
      have hdl2 := HDL.out
      simp only [if_true] at hdl2
      have e1 : decodeF t.size rest = decodeL rest := decodeF_more _ _ _ (by omega) (by omega)
      rw [e1] at hdl2
      have e2 : (cutB 59 rest).2.1.length < t.size := by omega
      rw [show decodeF t.size (cutB 59 rest).2.1 = decodeL (cutB 59 rest).2.1 from decodeF_more _ _ _ e2 (by omega)] at hdl2
      generalize cutB 59 rest = q2 at *
      obtain ⟨name, rest2, ended⟩ := q2
      simp only at hl2 hdl2 e2 ⊢
      have hbf3 := bf_drewN hbf2 n3
      have hb3 := below_drewN hb2' n3
      have HL2 := Lib.hid hl2; have HD2 := Lib.hid hdl2; have HE2 := Lib.hid e2
      clear hl2 hdl2 e1 e2 hbf2 hb2'
      go_wp2_with fail
      refine (sign_any _ _ (HG2.out.drewN n3) (by rw [size_mk]; have := HL2.out; omega)).mono ?_
      rintro e w4 ⟨⟨x, rfl, hx⟩, hb4⟩
      rw [show (⟨name.toArray⟩ : ByteArray).data.toList = name from rfl] at hx ⊢
      have hbf4 := bf_below hbf3 hb4
      have hb4' := below_trans_at hb3 hb4 hb3.size
      have hsl := signL_len name
      have HSL := Lib.hid hsl
      have hsz4 := hb4'.size
      have hbyte : (Lib.byteCells (acc ++ ahead)).length + 1 ≤ 140737488355328 := by rw [byteCells_len, List.length_append]; have := HL1.out; simp at this; omega
      have HBY := Lib.hid hbyte
      have HX := Lib.hid hx
      have HREL : Hid (∀ w', BF w.heap.size w.heap.size (Lib.byteCells (acc ++ ahead) ++ [.int .u8 38]) w' → Below w.heap.size w w' → decodeL t.data.toList = ahead ++ (38 :: decodeL rest) →
          ∃ (t' : ByteArray) (acc' : Bs), Value.string ⟨rest.toArray⟩ = .string t' ∧ t'.size ≤ s.size ∧ BF w.heap.size w.heap.size (Lib.byteCells acc') w' ∧ Below w.heap.size w w' ∧ acc'.length + 4 * t'.size ≤ 4 * s.size ∧ decodeL s.data.toList = acc' ++ decodeL t'.data.toList) := by
        intro w' hbf hbl hd
        refine ⟨⟨rest.toArray⟩, acc ++ ahead ++ [38], rfl, by rw [size_mk]; omega, by rw [byteCells_app]; exact hbf, hbl, ?_, ?_⟩
        · rw [size_mk]; simp only [List.length_append, List.length_singleton]; have := HL1.out; simp at this; omega
        · rw [HD.out, hd]; simp
      have HMS : Hid (szOf (.string ⟨rest.toArray⟩) < szOf (.string t)) := by show (⟨rest.toArray⟩ : ByteArray).size < t.size; rw [size_mk]; exact hrs
      clear hsl hbyte hx hb3 hb4 hbf3
      cases ended with
      | false =>
        go_wp2_with fail
        refine (writeByte_k w.heap.size w.heap.size _ _ _ hbf4 HBY.out hsz4).mono ?_
        rintro e w5 ⟨rfl, hbf5, hb5, -⟩
        go_wp2_with fail
        go_roundw
        case rel => exact HREL.out _ hbf5 (hb4'.trans hb5) HD2.out
        case measure => exact HMS.out
      | true =>
        cases hs1 : signL name with
        | none =>
          have HD3 : Hid (decodeL t.data.toList = ahead ++ (38 :: decodeL rest)) := by have := HD2.out; rw [hs1] at this; exact this
          rw [Option.isSome_none]
          clear hs1
          go_wp2_with fail
          refine (writeByte_k w.heap.size w.heap.size _ _ _ hbf4 HBY.out hsz4).mono ?_
          rintro e w5 ⟨rfl, hbf5, hb5, -⟩
          go_wp2_with fail
          go_roundw
          case rel => exact HREL.out _ hbf5 (hb4'.trans hb5) HD3.out
          case measure => exact HMS.out
        | some u =>
          have HD3 : Hid (decodeL t.data.toList = ahead ++ (u ++ decodeL rest2)) := by have := HD2.out; rw [hs1] at this; exact this
          obtain rfl := HX.out u hs1
          have hul := HSL.out u hs1
          rw [Option.isSome_some]
          have hlen2 : (Lib.byteCells (acc ++ ahead)).length + (⟨u.toArray⟩ : ByteArray).size ≤ 140737488355328 := by rw [byteCells_len, size_mk, List.length_append]; have := HL1.out; simp at this; omega
          have HLEN2 := Lib.hid hlen2
          clear hs1 hlen2
          go_wp2_with fail
          refine (writeString_k w.heap.size w.heap.size _ _ _ hbf4 HLEN2.out hsz4).mono ?_
          rintro e w5 ⟨rfl, hbf5, hb5, -⟩
          rw [strCells_bytes, ← byteCells_app] at hbf5
          go_wp2_with fail
          go_roundw
          case rel =>
            refine ⟨⟨rest2.toArray⟩, acc ++ ahead ++ u, rfl, by rw [size_mk]; have := HE2.out; omega, hbf5, hb4'.trans hb5, ?_, ?_⟩
            · rw [size_mk]; simp only [List.length_append]; have := HL1.out; have := HL2.out; simp at *; omega
            · rw [HD.out, HD3.out]; simp
          case measure => show (⟨rest2.toArray⟩ : ByteArray).size < t.size; rw [size_mk]; exact HE2.out
end Go.Proofs.YtdmmeinkligmcaaGreatDoor
