/- tree.Build. -/
import Derived.Test.YtdmmeinkligmcaaGreatDoorT14
import Derived.Deep.Cut
set_option linter.unusedVariables false
set_option maxRecDepth 100000
set_option maxHeartbeats 2000000
namespace Go.Proofs.YtdmmeinkligmcaaGreatDoor
open Go.RowKit

/-- The builder at its start. -/
theorem zat_start (w : World) (hg : Glob w) : ZAt (((w.alloc (.cells #[.string ⟨#[]⟩, .slice none 0 0, .string ⟨#[]⟩, .slice none 0 0, .slice none 0 0] 42)).alloc (.cells #[.pointer (some ⟨w.heap.size, 0, none⟩)] 39)).alloc (.cells #[.slice (some ⟨w.heap.size + 1, 0, none⟩) 1 1, .int .i64 0] 44)) w.heap.size (w.heap.size + 2) [⟨[], [], []⟩] 0 0 := by
  have h1 := heap_alloc_new w (.cells #[.string ⟨#[]⟩, .slice none 0 0, .string ⟨#[]⟩, .slice none 0 0, .slice none 0 0] 42)
  have b1 := (Below.refl w.heap.size w).alloc (Nat.le_refl _) (.cells #[.string ⟨#[]⟩, .slice none 0 0, .string ⟨#[]⟩, .slice none 0 0, .slice none 0 0] 42)
  have s1 : (w.alloc (.cells #[.string ⟨#[]⟩, .slice none 0 0, .string ⟨#[]⟩, .slice none 0 0, .slice none 0 0] 42)).heap.size = w.heap.size + 1 := by simp
  generalize w.alloc (.cells #[.string ⟨#[]⟩, .slice none 0 0, .string ⟨#[]⟩, .slice none 0 0, .slice none 0 0] 42) = w1 at *
  have h2 := heap_alloc_new w1 (.cells #[.pointer (some ⟨w.heap.size, 0, none⟩)] 39)
  have b2 := b1.alloc (by omega) (.cells #[.pointer (some ⟨w.heap.size, 0, none⟩)] 39)
  have h1' : (w1.alloc (.cells #[.pointer (some ⟨w.heap.size, 0, none⟩)] 39)).heap[w.heap.size]? = _ := (heap_alloc_old w1 _ (by omega)).trans h1
  have s2 : (w1.alloc (.cells #[.pointer (some ⟨w.heap.size, 0, none⟩)] 39)).heap.size = w.heap.size + 2 := by simp [s1]
  rw [s1] at h2
  generalize w1.alloc (.cells #[.pointer (some ⟨w.heap.size, 0, none⟩)] 39) = w2 at *
  have h3 := heap_alloc_new w2 (.cells #[.slice (some ⟨w.heap.size + 1, 0, none⟩) 1 1, .int .i64 0] 44)
  have b3 := b2.alloc (by omega) (.cells #[.slice (some ⟨w.heap.size + 1, 0, none⟩) 1 1, .int .i64 0] 44)
  have h1'' := (heap_alloc_old w2 (.cells #[.slice (some ⟨w.heap.size + 1, 0, none⟩) 1 1, .int .i64 0] 44) (r := w.heap.size) (by omega)).trans h1'
  have h2' := (heap_alloc_old w2 (.cells #[.slice (some ⟨w.heap.size + 1, 0, none⟩) 1 1, .int .i64 0] 44) (r := w.heap.size + 1) (by omega)).trans h2
  have s3 : (w2.alloc (.cells #[.slice (some ⟨w.heap.size + 1, 0, none⟩) 1 1, .int .i64 0] 44)).heap.size = w.heap.size + 3 := by simp [s2]
  rw [s2] at h3
  refine ⟨⟨[w.heap.size], [⟨w.heap.size, [], [], .slice none 0 0, [], .slice none 0 0, []⟩], ⟨⟨fun r hr => ?_, by simp, by simp⟩, (GB.start hg).next b3, by omega, ⟨.slice (some ⟨w.heap.size + 1, 0, none⟩) 1 1, h3, ?_, fun r hr => ?_⟩, by omega⟩, ?_, ?_⟩, by simp, by simp, by omega⟩
  · rw [List.mem_singleton] at hr; subst hr
    exact ⟨Nat.le_refl _, h1'', ⟨rfl, .inl ⟨rfl, rfl⟩⟩, RA.nil _ _⟩
  · refine ⟨rfl, .inr ⟨w.heap.size + 1, 1, _, rfl, by omega, h2', by simp, by unfold maxLen; omega, rfl, rfl⟩⟩
  · rw [List.mem_singleton] at hr; subst hr
    intro k hk; simp [Value.ownBlock]
  · exact FZ.cons ⟨[], [], []⟩ [] w.heap.size [] none (.slice none 0 0) (.slice none 0 0) [] [] [] .nil (.nil _)
  · intro r hr
    rw [List.mem_singleton] at hr; subst hr
    exact ⟨by simp, by simp, by simp⟩
theorem ZAt.below {w w' : World} {B bb : Nat} {z : List Fm} {count T : Nat} (h : ZAt w B bb z count T) (hb : Below w.heap.size w w') : ZAt w' B bb z count T := by
  obtain ⟨opn, rs, hb1, hz, hbn⟩ := h.ex
  exact ⟨⟨opn, rs, hb1.below hb, hz, hbn⟩, h.pos, h.len, h.cnt⟩
theorem ZAt.up {w : World} {B bb : Nat} {z : List Fm} {count T T' : Nat} (h : ZAt w B bb z count T) (hT : T ≤ T') : ZAt w B bb z count T' := by
  obtain ⟨opn, rs, hb1, hz, hbn⟩ := h.ex
  exact ⟨⟨opn, rs, hb1, hz, hbn.up (Nat.le_refl _) hT⟩, h.pos, h.len, h.cnt⟩
theorem ZAt.le {w : World} {B bb : Nat} {z : List Fm} {count T : Nat} (h : ZAt w B bb z count T) : B ≤ w.heap.size := by
  obtain ⟨opn, rs, hb1, hz, hbn⟩ := h.ex; exact hb1.le
theorem tk_cell {w : World} {B : Nat} {v : Value} {ts : List (Tk × Value)} (h : TkRow w B v ts) (i : Nat) (p : Tk × Value) (hi : ts[i]? = some p) : ∃ g c, v = .slice (some ⟨g, 0, none⟩) ts.length c ∧ ts.length ≤ c ∧ c ≤ maxLen ∧ w.cell? ⟨g, i * 4, none⟩ = some (.int .i64 p.1.kind) ∧ w.cell? ⟨g, i * 4 + 1, none⟩ = some (st p.1.name) ∧ w.cell? ⟨g, i * 4 + 2, none⟩ = some p.2 ∧ w.cell? ⟨g, i * 4 + 3, none⟩ = some (st p.1.text) := by
  obtain ⟨A, c, hv, h1, h2, h3⟩ := own_form h.1
  have hlt := (List.getElem?_eq_some_iff.1 hi).1
  obtain ⟨g, rfl, h4, h5, h6⟩ := h3 (by omega)
  have key : ∀ j, j < 4 → (tkCells ts)[i * 4 + j]? = (tkCell p)[j]? := by
    have gen : ∀ (ts : List (Tk × Value)) (i : Nat), ts[i]? = some p → ∀ j, j < 4 → (tkCells ts)[i * 4 + j]? = (tkCell p)[j]? := by
      intro ts
      induction ts with
      | nil => intro i hi; simp at hi
      | cons a l ih =>
        intro i hi j hj
        have e : tkCells (a :: l) = tkCell a ++ tkCells l := by simp [tkCells]
        rw [e]
        cases i with
        | zero =>
          simp at hi; subst hi
          rw [List.getElem?_append_left (by simp [tkCell]; omega)]; congr 1; omega
        | succ i =>
          rw [List.getElem?_append_right (by simp [tkCell]; omega)]
          have := ih i (by simpa using hi) j hj
          rw [← this]; congr 1; simp [tkCell]; omega
    exact gen ts i hi
  have k0 := key 0 (by omega); have k1 := key 1 (by omega); have k2 := key 2 (by omega); have k3 := key 3 (by omega)
  exact ⟨g, c, hv, h1, h2, h6 _ _ k0, h6 _ _ k1, h6 _ _ k2, h6 _ _ k3⟩

/-- What stands between two rounds of Build. -/
structure BuildInv (w w2 : World) (g bb : Nat) (ts : List Tk) (wr : World) (i : Nat) : Prop where
  z : ZAt wr g bb ((ts.take i).foldl stepZ ([⟨[], [], []⟩], 0)).1 ((ts.take i).foldl stepZ ([⟨[], [], []⟩], 0)).2 (textsum (ts.take i))
  far : Far g w2 wr

theorem build_any (s : ByteArray) (w : World) (hg : Glob w) (hs : s.size ≤ 20000) :
    Calls Tryz.prog 11 #[.string s] w fun e w' => ∃ v, e = .returned v ∧ NRow w' w.heap.size (fun k => w.heap.size ≤ k ∧ k < w'.heap.size) v (buildL s.data.toList) ∧ Below w.heap.size w w' := by
  have h0 := zat_start w hg
  have hb0 : Below w.heap.size w (((w.alloc (.cells #[.string ⟨#[]⟩, .slice none 0 0, .string ⟨#[]⟩, .slice none 0 0, .slice none 0 0] 42)).alloc (.cells #[.pointer (some ⟨w.heap.size, 0, none⟩)] 39)).alloc (.cells #[.slice (some ⟨w.heap.size + 1, 0, none⟩) 1 1, .int .i64 0] 44)) := (((Below.refl _ w).alloc (Nat.le_refl _) _).alloc (by simp) _).alloc (by simp; omega) _
  have HZ := Lib.hid h0
  have HB := Lib.hid hb0
  clear h0 hb0
  go_enter Tryz.func11, Tryz.ntmps11
  go_wp2_with fail
  generalize ((w.alloc (.cells #[.string ⟨#[]⟩, .slice none 0 0, .string ⟨#[]⟩, .slice none 0 0, .slice none 0 0] 42)).alloc (.cells #[.pointer (some ⟨w.heap.size, 0, none⟩)] 39)).alloc (.cells #[.slice (some ⟨w.heap.size + 1, 0, none⟩) 1 1, .int .i64 0] 44) = W1 at *
  refine (scan_any s W1 (hg.below HB.out) hs).mono ?_
  rintro e1 w2 ⟨v, ts, rfl, htoks, hrow, hb2⟩
  have HT := Lib.hid htoks
  have HROW := Lib.hid hrow
  have HZ2 := Lib.hid (HZ.out.below hb2)
  have HB2 := Lib.hid (HB.out.trans (hb2.mono HZ.out.le))
  have HW1 := Lib.hid HZ.out.le
  have hsn := scanL_names s.data.toList
  have hss := scanF_sum (s.data.toList.length + 1) s.data.toList []
  have hsl := scanF_len (s.data.toList.length + 1) s.data.toList []
  have hsz : s.data.toList.length = s.size := by simp
  have htl : ts.length ≤ 100000 := by
    have : (toks ts).length = ts.length := by simp [toks]
    rw [htoks] at this
    unfold scanL at this
    simp only [List.length_nil] at hsl
    omega
  have HNM : Hid (∀ p, p ∈ ts → p.1.name.length ≤ 100000000) := Lib.hid (fun p hp => by
    have := hsn p.1 (by rw [← htoks]; exact List.mem_map.2 ⟨p, hp, rfl⟩)
    omega)
  have HSM : Hid (textsum (toks ts) ≤ 100000) := Lib.hid (by
    rw [htoks]; unfold scanL
    have e : textsum ([] : List Tk) = 0 := rfl
    omega)
  obtain ⟨A, c, rfl, -, -, -⟩ := own_form hrow.1
  have H0 : Hid (BuildInv w w2 w.heap.size (w.heap.size + 2) (toks ts) w2 0) := Lib.hid ⟨by simpa [textsum] using HZ2.out, Far.refl _ _⟩
  clear htoks hrow hb2 hsn hss hsl HZ HB
  generalize hg0 : w.heap.size = g at *
  go_wp2_with fail
  go_loopw [14] (fun vi wr => ∃ i : Nat, i ≤ ts.length ∧ vi = .int .i64 i ∧ Hid (BuildInv w w2 g (g + 2) (toks ts) wr i))
    (fun vi _ => ts.length - (intOf vi).toNat)
  case atStart => exact ⟨0, Nat.zero_le _, rfl, H0⟩
  case round =>
    obtain ⟨i, hile, rfl, hinv⟩ := hrel
    clear H0
    by_cases hlt : i < ts.length
    · obtain ⟨p, hp⟩ : ∃ p, ts[i]? = some p := ⟨ts[i], List.getElem?_eq_getElem hlt⟩
      have hpm : p ∈ ts := List.mem_of_getElem? hp
      have hrw : TkRow wr W1.heap.size (.slice A ts.length c) ts := by
        refine ⟨own_kept HROW.out.1 (fun k hk => ?_), fun q hq => own_kept (HROW.out.2 q hq) (fun k hk => ?_)⟩
        · obtain ⟨cs, hc⟩ := own_type HROW.out.1 k hk
          rw [hc]; exact hinv.out.far.kept k cs _ _ hc (by decide) (by decide) (by decide)
        · obtain ⟨cs, hc⟩ := own_type (HROW.out.2 q hq) k hk
          rw [hc]; exact hinv.out.far.kept k cs _ _ hc (by decide) (by decide) (by decide)
      obtain ⟨gt, c', hAc, hlc, hcm, k0, k1, k2, k3⟩ := tk_cell hrw i p hp
      cases hAc
      have hra := (hrw.2 p hpm).weak HW1.out
      obtain ⟨Aa, ca, hav, -, -, -⟩ := own_form hra
      have hstep : (toks ts).take (i + 1) = (toks ts).take i ++ [p.1] := by
        have : (toks ts)[i]? = some p.1 := by simp [toks, hp]
        rw [List.take_add_one, this]; rfl
      have hfold : ((toks ts).take (i + 1)).foldl stepZ ([⟨[], [], []⟩], 0) = stepZ (((toks ts).take i).foldl stepZ ([⟨[], [], []⟩], 0)) p.1 := by rw [hstep, List.foldl_append]; rfl
      have hsum : textsum ((toks ts).take (i + 1)) = textsum ((toks ts).take i) + p.1.text.length := by rw [hstep, textsum_app]; simp [textsum]
      have hsumle : textsum ((toks ts).take (i + 1)) ≤ 100000 := by
        have h1 := HSM.out
        have h2 := textsum_app ((toks ts).take (i + 1)) ((toks ts).drop (i + 1))
        rw [List.take_append_drop] at h2
        omega
      have hnm := HNM.out p hpm
      obtain ⟨⟨kind, name, attrs, text⟩, av⟩ := p
      simp only at k0 k1 k2 k3 hra hav hfold hsum hnm
      subst hav
      have hz := hinv.out.z
      have hfar := hinv.out.far
      generalize hzz : ((toks ts).take i).foldl stepZ ([⟨[], [], []⟩], 0) = zc at *
      obtain ⟨z, count⟩ := zc
      simp only at hz
      have HZI := Lib.hid hz
      have HFAR := Lib.hid hfar
      have HRA := Lib.hid hra
      have HFO := Lib.hid hfold
      have HSU := Lib.hid (And.intro hsum hsumle)
      have HP := Lib.hid hp
      clear hz hfar hra hfold hsum hsumle hp hpm hrw hstep hinv hzz
      unfold st at k1 k3
      have hbo := (Below.refl wr.heap.size wr).alloc (Nat.le_refl _) (.cells #[.int .i64 kind, .string ⟨name.toArray⟩, .slice Aa attrs.length ca, .string ⟨text.toArray⟩] 48)
      have HZ3 : Hid (ZAt (wr.alloc (.cells #[.int .i64 kind, .string ⟨name.toArray⟩, .slice Aa attrs.length ca, .string ⟨text.toArray⟩] 48)) g (g + 1 + 1) z count (textsum ((toks ts).take i))) := Lib.hid (HZI.out.below hbo)
      have HF3 := Lib.hid (HFAR.out.trans (Far.mono hbo HZI.out.le))
      have HRA3 := Lib.hid (HRA.out.below hbo)
      have HTK : Hid ((wr.alloc (.cells #[.int .i64 kind, .string ⟨name.toArray⟩, .slice Aa attrs.length ca, .string ⟨text.toArray⟩] 48)).cell? ⟨wr.heap.size, 1, none⟩ = some (st name)) := Lib.hid (by rw [Lib.cell_of_heap (heap_alloc_new wr _)]; rfl)
      clear hbo
      by_cases hk1 : kind = 1
      · subst hk1
        have HC := Lib.hid (chars_z g (g + 1 + 1) count (textsum ((toks ts).take i)) z text _ HZ3.out (by have := HSU.out.1; have := HSU.out.2; omega))
        unfold st at HC
        go_wp2_with fail
        refine HC.out.mono ?_
        rintro e5 w5 ⟨rfl, h1, h2⟩
        have HX := Lib.hid (And.intro h1 (HF3.out.trans h2))
        clear h1 h2
        go_wp2_with fail
        go_roundw
        case measure => simp [intOf]; omega
        case rel =>
          refine ⟨i + 1, by omega, by go_num, Lib.hid ⟨?_, HX.out.2⟩⟩
          rw [HFO.out, HSU.out.1]
          exact HX.out.1
      · by_cases hk2 : kind = 2
        · subst hk2
          have HC := Lib.hid (start_z g (g + 1 + 1) count (textsum ((toks ts).take i)) 2 z name attrs (.slice Aa attrs.length ca) text _ HZ3.out HRA3.out hnm)
          unfold st at HC
          go_wp2_with fail
          refine HC.out.mono ?_
          rintro e5 w5 ⟨rfl, h1, h2⟩
          have HX := Lib.hid (And.intro h1 (HF3.out.trans h2))
          clear h1 h2
          go_wp2_with fail
          go_roundw
          case measure => simp [intOf]; omega
          case rel =>
            refine ⟨i + 1, by omega, by go_num, Lib.hid ⟨?_, HX.out.2⟩⟩
            rw [HFO.out, HSU.out.1]
            exact HX.out.1.up (by omega)
        · by_cases hk3 : kind = 3
          · subst hk3
            have HC := Lib.hid (end_z g (g + 1 + 1) wr.heap.size count (textsum ((toks ts).take i)) z name _ HZ3.out HTK.out)
            go_wp2_with fail
            refine HC.out.mono ?_
            rintro e5 w5 ⟨⟨bb5, rfl⟩, h1, h2⟩
            have HX := Lib.hid (And.intro h1 (HF3.out.trans h2))
            clear h1 h2
            go_wp2_with fail
            go_roundw
            case measure => simp [intOf]; omega
            case rel =>
              refine ⟨i + 1, by omega, by go_num, Lib.hid ⟨?_, HX.out.2⟩⟩
              rw [HFO.out, HSU.out.1]
              exact HX.out.1.up (by omega)
          · have n1 : (kind == 1) = false := by simpa using hk1
            have n2 : (kind == 2) = false := by simpa using hk2
            have n3 : (kind == 3) = false := by simpa using hk3
            have HKK := Lib.hid (And.intro hk1 (And.intro hk2 hk3))
            clear hk1 hk2 hk3
            go_wp2_with fail
            go_roundw
            case measure => simp [intOf]; omega
            case rel =>
              refine ⟨i + 1, by omega, by go_num, Lib.hid ⟨?_, HF3.out⟩⟩
              have e : stepZ (z, count) ⟨kind, name, attrs, text⟩ = (z, count) := by simp [stepZ, HKK.out.1, HKK.out.2.1, HKK.out.2.2]
              rw [HFO.out, HSU.out.1, e]
              exact HZ3.out.up (by omega)
    · have hie : i = ts.length := by omega
      have hz := hinv.out.z
      have hfar := hinv.out.far
      have htk : (toks ts).take i = scanL s.data.toList := by rw [← HT.out, hie, List.take_of_length_le (by simp [toks])]
      rw [htk] at hz
      have hbz : (scanL s.data.toList).foldl stepZ ([⟨[], [], []⟩], 0) = buildZ (scanL s.data.toList) := rfl
      rw [hbz] at hz
      have hbl : buildL s.data.toList = rootK (popTo ((buildZ (scanL s.data.toList)).1.length - 1) (buildZ (scanL s.data.toList)).1) := rfl
      generalize buildZ (scanL s.data.toList) = zc at *
      obtain ⟨z, count⟩ := zc
      simp only at hz hbl
      obtain ⟨opn, rs, hb, hzz, hbn⟩ := hz.ex
      have hol := fz_len hzz
      rw [List.length_reverse] at hol
      have hpos := hz.pos
      have hlen := hz.len
      have hcnt := hz.cnt
      obtain ⟨rs1, hz1, hp1⟩ := fz_take hzz 1 (by omega) (by omega)
      have hpl := popTo_len (z.length - 1) z (by omega)
      match hz2 : popTo (z.length - 1) z, hz1 with
      | [], hz1 => rw [hz2] at hpl; simp at hpl; omega
      | f :: f2 :: fs, hz1 => rw [hz2] at hpl; simp at hpl; omega
      | [f], hz1 =>
        obtain ⟨b, os1, av0, kv, bs, sub, rest1, ho1, hr1, hf, hfz⟩ := fz_head hz1
        have hos : os1 = [] := by
          have := congrArg List.length ho1
          simp at this
          exact List.eq_nil_of_length_eq_zero (by omega)
        subst hos
        have hfz' := hfz
        rw [List.reverse_nil] at hfz'
        cases hfz'
        subst hr1
        rw [List.append_nil] at hp1
        have hb1 := hb.perm hp1
        have hbn1 := hbn.perm hp1
        obtain ⟨ov, ho1', ho2, ho3, ho4, ho5⟩ := hb1.ov
        obtain ⟨gg, c', rfl, hlc, hcm, hgB, hgs, hcell⟩ := row_cell ho4 (by omega)
        have hopn0 : opn[0]? = some b := by
          have := congrArg (fun l => l[0]?) ho1
          simpa using this
        have p1 := hcell 0 b hopn0
        have p4 := hb1.k4.1
        simp only at p4
        have hrec0 := hb1.mem.each ⟨b, f.name, f.attrs, av0, [], kv, bs⟩ (by simp)
        have hk0 := (hbn1 ⟨b, f.name, f.attrs, av0, [], kv, bs⟩ (by simp)).1
        have hnd := hb1.mem.blks
        simp only [List.map_cons, List.nodup_cons] at hnd
        have hsubr : ∀ r, r ∈ sub → RecIn wr g r := fun r hr => hb1.mem.each r (by simp [hr])
        have HMD := Lib.hid (made_any (sub.length + 1) g f.kids bs sub kv wr (by omega) hf hsubr hnd.2 hrec0.row hb1.le (by simp only at hk0; omega) (fun r hr => by have := (hbn1 r (by simp [hr])).1; omega))
        have HFIN : Hid (∀ w' v, NRow w' g (fun k => wr.heap.size ≤ k ∧ k < w'.heap.size) v f.kids ∧ Made sub wr w' → NRow w' g (fun k => g ≤ k ∧ k < w'.heap.size) v (buildL s.data.toList) ∧ Below g w w') := Lib.hid (fun w' v ⟨h1, h2⟩ => by
          refine ⟨?_, HB2.out.trans (hfar.bel.trans ⟨h2.os, h2.tape, h2.output, h2.size, fun k hk => h2.block k (by have := hb1.le; omega) (fun hm => ?_)⟩)⟩
          · rw [hbl, hz2]
            exact nrow_kept (fun k hk => ⟨Nat.le_trans hb1.le hk.1, hk.2⟩) (fun _ _ _ _ => rfl) (fun _ _ _ => rfl) h1
          · obtain ⟨q, hq, e⟩ := List.mem_map.1 hm
            have := (hsubr q hq).lo
            omega)
        have hpo : 0 < opn.length := by omega
        clear hz hfar htk hbz hbl hb hzz hbn hol hlen hcnt hz1 hp1 hpl hz2 ho1 hf hfz hb1 hbn1 ho3 ho4 ho5 hcell hopn0 hrec0 hk0 hnd hsubr hinv hgB hgs hpos ho2
        subst hie
        go_wp2_with fail
        refine HMD.out.mono ?_
        rintro e5 w5 ⟨nv, rfl, h1, h2⟩
        have HX := Lib.hid (HFIN.out w5 nv ⟨h1, h2⟩)
        clear h1 h2
        go_wp2_with fail
        go_ret
        rw [hg0]
        exact ⟨nv, rfl, HX.out⟩
end Go.Proofs.YtdmmeinkligmcaaGreatDoor
