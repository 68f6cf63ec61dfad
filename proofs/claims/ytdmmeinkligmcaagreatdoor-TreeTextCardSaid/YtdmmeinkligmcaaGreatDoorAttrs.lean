/- htok.attrs: the attributes of a tag. -/
import Derived.Test.YtdmmeinkligmcaaGreatDoorAttr1
import Derived.Lib.SmallJoins
set_option linter.unusedVariables false
set_option maxRecDepth 100000
set_option maxHeartbeats 2000000
namespace Go.Proofs.YtdmmeinkligmcaaGreatDoor
open Go.RowKit

def whL : Bs := [32, 9, 10, 12, 13]
def whSl : Bs := [32, 9, 10, 12, 13, 47]
def whSlGtEq : Bs := [32, 9, 10, 12, 13, 47, 62, 61]
def addAt (l : List At) (a : At) : List At := if decide (l.length < 30) && !(l.any fun b => b.name == a.name) then l ++ [a] else l
/-- What stands behind an attribute's name: its value, and the rest. -/
def attrVal (rest : Bs) : Bs × Bs :=
  match Lib.trimLeftS rest whL with
  | 61 :: b => valueL (Lib.trimLeftS b whL)
  | _ => ([], rest)
/-- htok.attrs, in so many rounds. -/
def attrsF : Nat → Bs → List At → Option (List At × Bs)
  | 0, _, _ => none
  | f + 1, s, l =>
    match Lib.trimLeftS s whSl with
    | [] => none
    | c :: r =>
      if c = 62 then some (l, r)
      else attrsF f (attrVal (untilL whSlGtEq r).2).2 (addAt l ⟨smallL (c :: (untilL whSlGtEq r).1), (attrVal (untilL whSlGtEq r).2).1⟩)
def attrsL (s : Bs) : Option (List At × Bs) := attrsF (s.length + 1) s []
theorem trimLeftS_len (s c : Bs) : (Lib.trimLeftS s c).length ≤ s.length := by
  unfold Lib.trimLeftS
  exact (List.dropWhile_suffix _).length_le
theorem valueL_len (s : Bs) : (valueL s).2.length ≤ s.length := by
  cases s with
  | nil => simp [valueL, untilL]
  | cons q r =>
    simp only [valueL]
    split
    · have := cutB_le q r; simp only [List.length_cons]; omega
    · have := untilL_len whGt (q :: r); show (untilL whGt (q :: r)).2.length ≤ _; omega
theorem attrVal_len (s : Bs) : (attrVal s).2.length ≤ s.length := by
  unfold attrVal
  have h1 := trimLeftS_len s whL
  split
  · rename_i b hb
    rw [hb] at h1
    have h2 := trimLeftS_len b whL
    have h3 := valueL_len (Lib.trimLeftS b whL)
    simp at h1; omega
  · exact Nat.le_refl _
theorem attrsF_more : ∀ (f g : Nat) (s : Bs) (l : List At), s.length < f → s.length < g → attrsF f s l = attrsF g s l
  | 0, _, _, _, h, _ => by omega
  | _, 0, _, _, _, h => by omega
  | f + 1, g + 1, s, l, hf, hg => by
    unfold attrsF
    have h1 := trimLeftS_len s whSl
    split
    · rfl
    · rename_i c r hr
      rw [hr] at h1
      have h2 := untilL_len whSlGtEq r
      have h3 := attrVal_len (untilL whSlGtEq r).2
      simp at h1
      split
      · rfl
      · exact attrsF_more f g _ _ (by omega) (by omega)
theorem trim_wh (t : ByteArray) (w : World) :
    Calls Tryz.prog 110 #[.string t, .string ⟨#[32, 9, 10, 12, 13]⟩] w fun e w' => e = .returned (.string ⟨(Lib.trimLeftS t.data.toList whL).toArray⟩) ∧ Below w.heap.size w w' :=
  Tryz.strings_TrimLeft_ascii t _ w (by decide) (by intro j b hj; match j, hj with | 0, hj | 1, hj | 2, hj | 3, hj | 4, hj => simp at hj; subst hj; decide)
theorem trim_whSl (t : ByteArray) (w : World) :
    Calls Tryz.prog 110 #[.string t, .string ⟨#[32, 9, 10, 12, 13, 47]⟩] w fun e w' => e = .returned (.string ⟨(Lib.trimLeftS t.data.toList whSl).toArray⟩) ∧ Below w.heap.size w w' :=
  Tryz.strings_TrimLeft_ascii t _ w (by decide) (by intro j b hj; match j, hj with | 0, hj | 1, hj | 2, hj | 3, hj | 4, hj | 5, hj => simp at hj; subst hj; decide)
theorem at_info : (Tryz.prog.info? 37).map (fun i => (i.zero, i.size, i.bytes)) = some (some (.agg #[.string ⟨#[]⟩, .string ⟨#[]⟩]), 2, 32) := by kernel_rfl

/-- A variable that holds an attribute. -/
def AtCell (w : World) (p : Nat) (name value : Bs) : Prop := w.heap[p]? = some (.cells #[st name, st value] 37 (0, 0))
theorem AtCell.made (w : World) (name : Bs) : AtCell (w.alloc (.cells #[st name, st []] 37)) w.heap.size name [] := heap_alloc_new w _
theorem AtCell.below {w w' : World} {p : Nat} {n v : Bs} (h : AtCell w p n v) (hb : Below w.heap.size w w') : AtCell w' p n v := by
  unfold AtCell at *
  rw [hb.block p (Array.getElem?_eq_some_iff.1 h).1]; exact h
theorem AtCell.c0 {w : World} {p : Nat} {n v : Bs} (h : AtCell w p n v) : w.cell? ⟨p, 0, none⟩ = some (st n) := by rw [Lib.cell_of_heap h]; rfl
theorem AtCell.c1 {w : World} {p : Nat} {n v : Bs} (h : AtCell w p n v) : w.cell? ⟨p, 1, none⟩ = some (st v) := by rw [Lib.cell_of_heap h]; rfl
theorem AtCell.free {w : World} {p : Nat} {n v : Bs} (h : AtCell w p n v) (j : Nat) : w.frozen? ⟨p, j, none⟩ = false := Lib.frozen_of_heap h j
theorem AtCell.set {w : World} {p : Nat} {n v : Bs} (h : AtCell w p n v) (v' : Bs) : AtCell (w.setCell ⟨p, 1, none⟩ (st v')) p n v' := by
  unfold AtCell at *
  simp [World.setCell, Array.getElem?_modify, h]
theorem AtCell.lt {w : World} {p : Nat} {n v : Bs} (h : AtCell w p n v) : p < w.heap.size := (Array.getElem?_eq_some_iff.1 h).1
theorem RA.set {w : World} {base p : Nat} {v : Value} {l : List At} (h : RA w base v l) (hn : ∀ k, v.ownBlock = some k → k < p) (j : Nat) (u : Value) : RA (w.setCell ⟨p, j, none⟩ u) base v l :=
  own_kept h (fun k hk => Below.heap_setCell w _ u k (by have := hn k hk; simp only; omega))

/-- What htok.attrs hands back. -/
def AttrsRet (o : Option (List At × Bs)) (base : Nat) (e : Ending) (w' : World) : Prop := match o with
  | none => e = .returned (.tuple #[.slice none 0 0, .string ⟨#[]⟩, .bool false])
  | some (l, r) => ∃ v, e = .returned (.tuple #[v, .string ⟨r.toArray⟩, .bool true]) ∧ RA w' base v l

theorem attrs_any (s : ByteArray) (w : World) (hg : Glob w) (hs : s.size ≤ 4000000000) :
    Calls Tryz.prog 93 #[.string s] w fun e w' => AttrsRet (attrsL s.data.toList) w.heap.size e w' ∧ Below w.heap.size w w' := by
  obtain ⟨i0, hi, hz0, hz1, hz2⟩ := info_parts at_info
  have h00 : attrsL s.data.toList = attrsF (s.size + 1) s.data.toList [] := by unfold attrsL; simp
  go_enter Tryz.func93, Tryz.ntmps93
  go_wp2_with fail
  go_loopw [0, 5] (fun v vl wr => ∃ (t : ByteArray) (acc : List At), v = .string t ∧ t.size ≤ s.size ∧ RA wr w.heap.size vl acc ∧ acc.length ≤ 30 ∧ Below w.heap.size w wr ∧ Hid (attrsL s.data.toList = attrsF (t.size + 1) t.data.toList acc))
    (fun v _ _ => szOf v)
  case atStart => exact ⟨s, [], rfl, Nat.le_refl _, RA.nil _ _, by decide, Below.refl _ _, Lib.hid h00⟩
  case round =>
    obtain ⟨t, acc, rfl, hts, hra, hacc, hb, hh⟩ := hrel
    obtain ⟨A, cp, rfl, -, -, -⟩ := own_form hra
    clear h00
    have HG := Lib.hid (hg.below hb)
    have hsz := hb.size
    go_wp2_with fail
    refine (trim_whSl t _).mono ?_
    rintro e w1 ⟨rfl, hb1⟩
    have hra1 := hra.below hb1
    have hb1' := below_trans_at hb hb1 hsz
    have HG1 := Lib.hid (HG.out.below hb1)
    have hl1 := trimLeftS_len t.data.toList whSl
    have htl : t.data.toList.length = t.size := by simp
    have hstep := hh.out
    unfold attrsF at hstep
    obtain ⟨t2, ht2⟩ : ∃ t2 : ByteArray, t2 = ⟨(Lib.trimLeftS t.data.toList whSl).toArray⟩ := ⟨_, rfl⟩
    have ht2l : t2.data.toList = Lib.trimLeftS t.data.toList whSl := by rw [ht2]
    rw [← ht2l] at hl1 hstep
    rw [← ht2]
    have ht2s : t2.data.toList.length = t2.size := by simp
    clear ht2 ht2l hra hh hb1 HG hb
    match hd : t2.data.toList with
    | [] =>
      rw [hd] at hstep
      simp only at hstep
      have HST := Lib.hid hstep
      have hne : t2.toList = [] := by rw [Lib.toList_data, hd]
      clear hstep hd ht2s hl1 htl hra1
      go_wp2_with fail
      go_ret3
      refine ⟨?_, hb1'⟩
      rw [HST.out]; rfl
    | c :: r =>
      rw [hd] at hstep hl1 ht2s
      simp only at hstep
      have hne : t2.toList.isEmpty = false := by rw [Lib.toList_data, hd]; rfl
      have hne2 : ¬ t2.toList = [] := by rw [Lib.toList_data, hd]; simp
      have hx0 : t2.extract 0 1 = ⟨#[c]⟩ := by rw [str_take, hd]; rfl
      have hx1 : t2.extract 1 t2.size = ⟨r.toArray⟩ := by rw [str_drop, hd]; rfl
      have hz1' : 1 ≤ t2.size := by simp at ht2s; omega
      have hrl : r.length + 1 = t2.size := by simpa using ht2s
      have hts2 : t2.size ≤ t.size := by simp at hl1; omega
      clear hd ht2s hl1 htl
      by_cases hc : c = 62
      · subst hc
        rw [if_pos rfl] at hstep
        have HST := Lib.hid hstep
        have HRL := Lib.hid hrl
        clear hstep hrl
        go_wp2_with fail
        go_quiet (fail)
        go_wp2_with fail
        go_ret3
        refine ⟨?_, below_drewN hb1' _⟩
        rw [HST.out]
        exact ⟨_, rfl, hra1⟩
      · rw [if_neg hc] at hstep
        have e4 : ([c] == [(62 : UInt8)]) = false := by simpa using hc
        have e5 : (c == 62) = false := by simpa using hc
        have hul := untilL_len whSlGtEq r
        generalize hu : untilL whSlGtEq r = u at *
        obtain ⟨u1, u2⟩ := u
        simp only at hul hstep
        have hu1b : u1.length ≤ 4000000000 := by omega
        have hu2b : u2.length < t2.size := by omega
        have HU := Lib.hid hu; have HUL := Lib.hid hul; have HST := Lib.hid hstep; have HRL := Lib.hid hrl
        clear hu hul hstep hrl hc
        go_wp2_with fail
        refine (until_any _ _ _ (by rw [size_mk]; have := HRL.out; omega)).mono ?_
        rintro e w2 ⟨rfl, hb2⟩
        rw [show untilL (⟨#[32, 9, 10, 12, 13, 47, 62, 61]⟩ : ByteArray).data.toList (⟨r.toArray⟩ : ByteArray).data.toList = (u1, u2) from HU.out]
        have hra2 := hra1.below hb2
        have hb2' := below_trans_at hb1' hb2 hb1'.size
        have HG2 := Lib.hid (HG1.out.below hb2)
        clear hra1 hb1' hb2 HG1
        go_wp2_with fail
        refine (htok_small _ _ (by rw [ByteArray.size_append, size_mk, size_mk]; simp only [List.length_singleton]; omega)).mono ?_
        rintro e w3 ⟨rfl, hb3⟩
        rw [show smallL ((⟨#[c]⟩ : ByteArray) ++ ⟨u1.toArray⟩).data.toList = smallL (c :: u1) from by rw [Joins.data_append]; rfl]
        have hra3 := hra2.below hb3
        have hb3' := below_trans_at hb2' hb3 hb2'.size
        have HG3 := Lib.hid (HG2.out.below hb3)
        clear hra2 hb2' hb3 HG2
        go_wp2_with fail
        have hra4 : RA (w3.alloc (.cells #[st (smallL (c :: u1)), st []] 37)) w.heap.size (.slice A acc.length cp) acc := hra3.below ((Below.refl _ _).alloc (Nat.le_refl _) _)
        have hac4 := AtCell.made w3 (smallL (c :: u1))
        have hb4 : Below w.heap.size w (w3.alloc (.cells #[st (smallL (c :: u1)), st []] 37)) := hb3'.alloc hb3'.size _
        have hp4 : w.heap.size ≤ w3.heap.size := hb3'.size
        have hne4 : ∀ k, (Value.slice A acc.length cp).ownBlock = some k → k < w3.heap.size := fun k hk => (own_lt hra3 k hk).2
        have HNE := Lib.hid hne4
        clear hra3 hne4
        refine (trim_wh _ _).mono ?_
        rintro e w5 ⟨rfl, hb5⟩
        rw [show (⟨u2.toArray⟩ : ByteArray).data.toList = u2 from rfl]
        have hra5 := hra4.below hb5
        have hac5 := hac4.below hb5
        have hb5' := below_trans_at hb4 hb5 hb4.size
        have hp5 := hac5.lt
        have HG5 := Lib.hid ((HG3.out.below ((Below.refl _ _).alloc (Nat.le_refl _) _)).below hb5)
        generalize w3.heap.size = p at *
        generalize smallL (c :: u1) = nm at *
        clear hra4 hac4 hb4 hb5 HG3 hb3'
        have hval : attrVal u2 = match Lib.trimLeftS u2 whL with | 61 :: b => valueL (Lib.trimLeftS b whL) | _ => ([], u2) := rfl
        have hvl := attrVal_len u2
        have hql := trimLeftS_len u2 whL
        generalize hq : Lib.trimLeftS u2 whL = q at *
        generalize attrVal u2 = av at *
        have HQ := Lib.hid hq; have HAV := Lib.hid hval; have HVL := Lib.hid hvl; have HQL := Lib.hid hql
        clear hq hval hvl hql
        go_wp2_with fail
        refine (Tryz.strings_CutPrefix _ _ _).mono ?_
        rintro e w6 ⟨rfl, rfl⟩
        have fin1 : True := trivial
        by_cases hpx : ∃ b, q = 61 :: b
        · obtain ⟨b, rfl⟩ := hpx
          rw [show Lib.hasPrefix (⟨(61 :: b).toArray⟩ : ByteArray).data.toList (⟨#[61]⟩ : ByteArray).data.toList = true from by simp [Lib.hasPrefix, List.isPrefixOf],
            show Lib.trimPrefix (⟨(61 :: b).toArray⟩ : ByteArray).data.toList (⟨#[61]⟩ : ByteArray).data.toList = b from by simp [Lib.trimPrefix, Lib.hasPrefix, List.isPrefixOf]]
          have hav : av = valueL (Lib.trimLeftS b whL) := HAV.out
          have hbl := trimLeftS_len b whL
          have HB := Lib.hid hbl; have HAV2 := Lib.hid hav
          clear hav hbl HAV
          go_wp2_with fail
          refine (trim_wh _ _).mono ?_
          rintro e w7 ⟨rfl, hb7⟩
          rw [show (⟨b.toArray⟩ : ByteArray).data.toList = b from rfl]
          have hra7 := hra5.below hb7
          have hac7 := hac5.below hb7
          have hb7' := below_trans_at hb5' hb7 hb5'.size
          have HG7 := Lib.hid (HG5.out.below hb7)
          clear hra5 hac5 hb7 HG5 hb5'
          go_wp2_with fail
          refine (value_any _ _ HG7.out (by rw [size_mk]; have := HB.out; have := HQL.out; simp at this; omega)).mono ?_
          rintro e w8 ⟨rfl, hb8⟩
          rw [show valueL (⟨(Lib.trimLeftS b whL).toArray⟩ : ByteArray).data.toList = av from HAV2.out.symm]
          have hra8 := hra7.below hb8
          have hac8 := hac7.below hb8
          have hb8' := below_trans_at hb7' hb8 hb7'.size
          have HG8 := Lib.hid (HG7.out.below hb8)
          have d0 := hac8.c0
          have d1 := hac8.c1
          have f1 := hac8.free 1
          clear hra7 hac7 hb8 HG7 hb7'
          unfold st at d0 d1
          have HSS := Lib.hid (show av.2.length < t.size by have := HVL.out; omega)
          have hrt : RA (w8.setCell ⟨p, 1, none⟩ (st av.1)) w.heap.size (.slice A acc.length cp) acc := hra8.set HNE.out 1 _
          have hat : AtCell (w8.setCell ⟨p, 1, none⟩ (st av.1)) p nm av.1 := hac8.set _
          have hbt : Below w.heap.size w (w8.setCell ⟨p, 1, none⟩ (st av.1)) := hb8'.setCell hp4 _
          have hadd : addAt acc ⟨nm, av.1⟩ = if decide (acc.length < 30) && !(acc.any fun b => b.name == nm) then acc ++ [⟨nm, av.1⟩] else acc := rfl
          have HADD := Lib.hid hadd; clear hadd
          have HF30 := Lib.hid (fun h : ¬ acc.length < 30 => (show addAt acc ⟨nm, av.1⟩ = acc by rw [HADD.out, show decide (acc.length < 30) = false by simpa using h]; rfl))
          go_wp2_with fail
          · have h30i : (acc.length : Int) < 30 := by assumption
            have h30 : acc.length < 30 := by omega
            have hd30 : decide (acc.length < 30) = true := by simpa using h30
            refine (attrs_contains acc w.heap.size p nm _ _ hat.c0 hrt (by omega)).mono ?_
            rintro e w10 ⟨rfl, hb10⟩
            have hrt2 := hrt.below hb10
            have hat2 := hat.below hb10
            have hbt2 := below_trans_at hbt hb10 hbt.size
            have x0 := hat2.c0
            have x1 := hat2.c1
            have hwz := hbt2.size
            unfold st at x0 x1
            cases hany : acc.any fun b => b.name == nm with
            | true =>
              have HFIN := Lib.hid (show addAt acc ⟨nm, av.1⟩ = acc by rw [HADD.out, hany]; simp)
              clear hany
              go_wp2_with fail
              go_roundw
              case rel => exact ⟨⟨av.2.toArray⟩, acc, rfl, by rw [size_mk]; have := HSS.out; omega, hrt2, hacc, hbt2, Lib.hid (by rw [HST.out, HFIN.out]; exact attrsF_more _ _ _ _ (by have := HSS.out; omega) (by rw [size_mk]; omega))⟩
              case measure => show (⟨av.2.toArray⟩ : ByteArray).size < t.size; rw [size_mk]; have := HSS.out; omega
            | false =>
              have HFIN := Lib.hid (show addAt acc ⟨nm, av.1⟩ = acc ++ [⟨nm, av.1⟩] by rw [HADD.out, hany, hd30]; rfl)
              clear hany
              go_wp2_with (at_builtin; refine wpList_append_own _ rfl _ _ 31 rfl w.heap.size 37 i0 (.agg #[.string ⟨#[]⟩, .string ⟨#[]⟩]) 2 32 Tryz.underlying31 hi hz0 hz1 hz2 rfl (by decide) _ _ _ rfl (World.ownsRow.alloc hrt2 _) ⟨w10.heap.size, 0, none⟩ 1 1 [st nm, st av.1] rfl rfl ?c1a ?c2a ?c3a ?c4a ?c5a ?_)
              case c1a =>
                intro j u hj
                match j, hj with
                | 0, hj => simp at hj; subst hj; simp [Addr.add, World.cell?_alloc_at, st]
                | 1, hj => simp at hj; subst hj; simp [Addr.add, World.cell?_alloc_at, st]
                | (j + 2), hj => simp at hj
              case c2a => intro u hu; simp at hu; rcases hu with rfl | rfl <;> rfl
              case c3a => unfold maxLen; omega
              case c4a => omega
              case c5a => simp; omega
              intro v' w11 hown' hgrow hnil
              rw [← atCells_snoc acc ⟨nm, av.1⟩] at hown'
              have hown2 : RA w11 w.heap.size v' (acc ++ [⟨nm, av.1⟩]) := by unfold RA; simpa using hown'
              have hb11 : Below w.heap.size w w11 := (hbt2.alloc hbt2.size _).grown hgrow (by simp; omega) (fun k hk => (own_lt hrt2 k hk).1)
              clear hown' hgrow hnil
              go_wp2_with fail
              go_roundw
              case rel => exact ⟨⟨av.2.toArray⟩, acc ++ [⟨nm, av.1⟩], rfl, by rw [size_mk]; have := HSS.out; omega, hown2, by simp; omega, hb11, Lib.hid (by rw [HST.out, HFIN.out]; exact attrsF_more _ _ _ _ (by have := HSS.out; omega) (by rw [size_mk]; omega))⟩
              case measure => show (⟨av.2.toArray⟩ : ByteArray).size < t.size; rw [size_mk]; have := HSS.out; omega
          · have h30i : ¬ (acc.length : Int) < 30 := by assumption
            have HFIN := Lib.hid (HF30.out (by omega))
            go_roundw
            case rel => exact ⟨⟨av.2.toArray⟩, acc, rfl, by rw [size_mk]; have := HSS.out; omega, hrt, hacc, hbt, Lib.hid (by rw [HST.out, HFIN.out]; exact attrsF_more _ _ _ _ (by have := HSS.out; omega) (by rw [size_mk]; omega))⟩
            case measure => show (⟨av.2.toArray⟩ : ByteArray).size < t.size; rw [size_mk]; have := HSS.out; omega
        · have hnp : Lib.hasPrefix q [61] = false := by
            cases q with
            | nil => rfl
            | cons c' l' =>
              simp only [Lib.hasPrefix, List.isPrefixOf, Bool.and_true]
              by_cases e : c' = 61
              · exact absurd ⟨l', by rw [e]⟩ hpx
              · simp; exact fun h => e h.symm
          rw [show Lib.hasPrefix (⟨q.toArray⟩ : ByteArray).data.toList (⟨#[61]⟩ : ByteArray).data.toList = false from hnp]
          have hav : av = ([], u2) := by
            rw [HAV.out]
            split
            · rename_i b; exact absurd ⟨b, rfl⟩ hpx
            · rfl
          have HSS := Lib.hid (show u2.length < t.size by omega)
          have hst2 := HST.out
          rw [hav] at hst2
          simp only at hst2
          replace HST := Lib.hid hst2
          have d0 := hac5.c0
          have d1 := hac5.c1
          clear hnp hpx hav HAV hst2 HVL
          unfold st at d0 d1
          have hrt : RA w6 w.heap.size (.slice A acc.length cp) acc := hra5
          have hat : AtCell w6 p nm ([] : Bs) := hac5
          have hbt : Below w.heap.size w w6 := hb5'
          have hadd : addAt acc ⟨nm, ([] : Bs)⟩ = if decide (acc.length < 30) && !(acc.any fun b => b.name == nm) then acc ++ [⟨nm, ([] : Bs)⟩] else acc := rfl
          have HADD := Lib.hid hadd; clear hadd
          have HF30 := Lib.hid (fun h : ¬ acc.length < 30 => (show addAt acc ⟨nm, ([] : Bs)⟩ = acc by rw [HADD.out, show decide (acc.length < 30) = false by simpa using h]; rfl))
          go_wp2_with fail
          · have h30i : (acc.length : Int) < 30 := by assumption
            have h30 : acc.length < 30 := by omega
            have hd30 : decide (acc.length < 30) = true := by simpa using h30
            refine (attrs_contains acc w.heap.size p nm _ _ hat.c0 hrt (by omega)).mono ?_
            rintro e w10 ⟨rfl, hb10⟩
            have hrt2 := hrt.below hb10
            have hat2 := hat.below hb10
            have hbt2 := below_trans_at hbt hb10 hbt.size
            have x0 := hat2.c0
            have x1 := hat2.c1
            have hwz := hbt2.size
            unfold st at x0 x1
            cases hany : acc.any fun b => b.name == nm with
            | true =>
              have HFIN := Lib.hid (show addAt acc ⟨nm, ([] : Bs)⟩ = acc by rw [HADD.out, hany]; simp)
              clear hany
              go_wp2_with fail
              go_roundw
              case rel => exact ⟨⟨u2.toArray⟩, acc, rfl, by rw [size_mk]; have := HSS.out; omega, hrt2, hacc, hbt2, Lib.hid (by rw [HST.out, HFIN.out]; exact attrsF_more _ _ _ _ (by have := HSS.out; omega) (by rw [size_mk]; omega))⟩
              case measure => show (⟨u2.toArray⟩ : ByteArray).size < t.size; rw [size_mk]; have := HSS.out; omega
            | false =>
              have HFIN := Lib.hid (show addAt acc ⟨nm, ([] : Bs)⟩ = acc ++ [⟨nm, ([] : Bs)⟩] by rw [HADD.out, hany, hd30]; rfl)
              clear hany
              go_wp2_with (at_builtin; refine wpList_append_own _ rfl _ _ 31 rfl w.heap.size 37 i0 (.agg #[.string ⟨#[]⟩, .string ⟨#[]⟩]) 2 32 Tryz.underlying31 hi hz0 hz1 hz2 rfl (by decide) _ _ _ rfl (World.ownsRow.alloc hrt2 _) ⟨w10.heap.size, 0, none⟩ 1 1 [st nm, st ([] : Bs)] rfl rfl ?c1b ?c2b ?c3b ?c4b ?c5b ?_)
              case c1b =>
                intro j u hj
                match j, hj with
                | 0, hj => simp at hj; subst hj; simp [Addr.add, World.cell?_alloc_at, st]
                | 1, hj => simp at hj; subst hj; simp [Addr.add, World.cell?_alloc_at, st]
                | (j + 2), hj => simp at hj
              case c2b => intro u hu; simp at hu; rcases hu with rfl | rfl <;> rfl
              case c3b => unfold maxLen; omega
              case c4b => omega
              case c5b => simp; omega
              intro v' w11 hown' hgrow hnil
              rw [← atCells_snoc acc ⟨nm, ([] : Bs)⟩] at hown'
              have hown2 : RA w11 w.heap.size v' (acc ++ [⟨nm, ([] : Bs)⟩]) := by unfold RA; simpa using hown'
              have hb11 : Below w.heap.size w w11 := (hbt2.alloc hbt2.size _).grown hgrow (by simp; omega) (fun k hk => (own_lt hrt2 k hk).1)
              clear hown' hgrow hnil
              go_wp2_with fail
              go_roundw
              case rel => exact ⟨⟨u2.toArray⟩, acc ++ [⟨nm, ([] : Bs)⟩], rfl, by rw [size_mk]; have := HSS.out; omega, hown2, by simp; omega, hb11, Lib.hid (by rw [HST.out, HFIN.out]; exact attrsF_more _ _ _ _ (by have := HSS.out; omega) (by rw [size_mk]; omega))⟩
              case measure => show (⟨u2.toArray⟩ : ByteArray).size < t.size; rw [size_mk]; have := HSS.out; omega
          · have h30i : ¬ (acc.length : Int) < 30 := by assumption
            have HFIN := Lib.hid (HF30.out (by omega))
            go_roundw
            case rel => exact ⟨⟨u2.toArray⟩, acc, rfl, by rw [size_mk]; have := HSS.out; omega, hrt, hacc, hbt, Lib.hid (by rw [HST.out, HFIN.out]; exact attrsF_more _ _ _ _ (by have := HSS.out; omega) (by rw [size_mk]; omega))⟩
            case measure => show (⟨u2.toArray⟩ : ByteArray).size < t.size; rw [size_mk]; have := HSS.out; omega
end Go.Proofs.YtdmmeinkligmcaaGreatDoor
